/- Texts A2, DT, RW, I0, I1, I2, I4, U0. -/
import Derived.Test.YtikpcipkkhmcfaaGreatQ00
import Derived.Maps.AppendAt
import Derived.Laws.AppendOwnNone
/- Merged text: G6, G7, G8, G9 of the notes. -/
/- The tape of numbers: contracts of New, Next, Event, Visible. -/
namespace Go.Proofs.YtikpcipkkhmcfaaGreat
open Go.RowKit

/-- A tape lies at block tb; at most N numbers have been drawn. -/
def TapeOk (B : Nat) (w : World) (tb : Nat) (N : Nat) : Prop := ∃ (a : Option Addr) (cap : Nat) (xs : List Int) (at0 : Nat),
 RowAt w tb 62 [.slice a xs.length cap, .int .i64 at0] ∧ Rd B w a xs.length cap 1 (ints xs) ∧ (∀ x ∈ xs, -9223372036854775808 ≤ x ∧ x ≤ 9223372036854775807) ∧ at0 ≤ N

theorem TapeOk.frm {B : Nat} {fp : List Nat} {w w' : World} {tb N : Nat} (h : TapeOk B w tb N) (hf : Frm fp w w') (hn : ∀ k ∈ fp, B ≤ k) (ht : tb ∉ fp) : TapeOk B w' tb N := by
 obtain ⟨a, cap, xs, at0, h1, h2, h3, h4⟩ := h
 exact ⟨a, cap, xs, at0, h1.frm hf ht, h2.frm hf hn, h3, h4⟩

theorem TapeOk.nil {B : Nat} {w w' : World} {tb N : Nat} (h : TapeOk B w tb N) (hf : Frm [] w w') : TapeOk B w' tb N := h.frm hf (by simp) (by simp)

theorem TapeOk.mono {B : Nat} {w : World} {tb N M : Nat} (h : TapeOk B w tb N) (hm : N ≤ M) : TapeOk B w tb M := by
 obtain ⟨a, cap, xs, at0, h1, h2, h3, h4⟩ := h
 exact ⟨a, cap, xs, at0, h1, h2, h3, by omega⟩

theorem TapeOk.lt {B : Nat} {w : World} {tb N : Nat} (h : TapeOk B w tb N) : tb < w.heap.size := by
 obtain ⟨a, cap, xs, at0, h1, _⟩ := h
 exact h1.lt

theorem tape_new (B : Nat) (a : Option Addr) (cap : Nat) (xs : List Int) (w : World) (h : Rd B w a xs.length cap 1 (ints xs)) (hx : ∀ x ∈ xs, -9223372036854775808 ≤ x ∧ x ≤ 9223372036854775807) :
  Calls Tryz.prog 9 #[.slice a xs.length cap] w fun e w' => e = .returned (.pointer (some ⟨w.heap.size, 0, none⟩)) ∧ Frm [] w w' ∧ TapeOk B w' w.heap.size 0 ∧ w'.heap.size = w.heap.size + 1 := by
 have f0 : Frm [] w (w.alloc (.cells #[.slice a xs.length cap, .int .i64 0] 62)) := (Frm.refl [] w).alloc _
 have hT : TapeOk B (w.alloc (.cells #[.slice a xs.length cap, .int .i64 0] 62)) w.heap.size 0 :=
  ⟨a, cap, xs, 0, RowAt.made _ _ _ _ rfl, h.frm f0 (by simp), hx, Nat.le_refl _⟩
 have hl := h.lt
 have HT := Lib.hid hT
 clear hx hT h
 go_enter Tryz.func9, Tryz.ntmps9
 go_wp2
 go_ret
 exact ⟨rfl, f0, HT.out, by simp⟩

set_option maxRecDepth 100000 in
set_option maxHeartbeats 2000000 in
theorem next_any (B tb N : Nat) (n : Int) (w : World) (h : TapeOk B w tb N) (hB : B ≤ tb) (hN : N ≤ 1000000000) (hn : n ≤ 1000000000) :
  Calls Tryz.prog 12 #[.pointer (some ⟨tb, 0, none⟩), .int .i64 n] w fun e w' => (∃ v : Int, e = .returned (.int .i64 v) ∧ (1 ≤ n → 0 ≤ v ∧ v < n) ∧ (n < 1 → v = 0)) ∧ TapeOk B w' tb (N + 1) ∧ Frm [tb] w w' := by
 obtain ⟨a, cap, xs, at0, h1, h2, h3, h4⟩ := h
 have hl := h2.lt
 have c0 := h1.cell (i := 0) rfl
 have c1 := h1.cell (i := 1) rfl
 have z1 := h1.frozen 1
 have i0 : (0 : Int) ≤ (at0 : Int) := by omega
 have i1 : (at0 : Int) ≤ 1000000000 := by omega
 have hend : ∀ k : Nat, TapeOk B ((w.setCell ⟨tb, 1, none⟩ (.int .i64 ((at0 : Int) + 1))).drewN k) tb (N + 1) := by
  intro k
  refine ⟨a, cap, xs, at0 + 1, ?_, ?_, h3, by omega⟩
  ·have := h1.setCell 1 (.int .i64 ((at0 + 1 : Nat) : Int))
   exact this.drewN k
  ·refine (h2.frm (fp := [tb]) ?_ (by simp; omega))
   exact ((Frm.refl _ _).setCell (.inl (by simp)) _).drewN k
 have HEND := Lib.hid hend
 by_cases hlt : at0 < xs.length
 ·obtain ⟨x, hx⟩ : ∃ x, xs[at0]? = some x := ⟨_, List.getElem?_eq_getElem hlt⟩
  obtain ⟨b, o, rfl, hb, hc⟩ := h2.at hx
  have hxb := h3 x (List.mem_of_getElem? hx)
  obtain ⟨x1, x2⟩ := hxb
  have i2 : (at0 : Int) < (xs.length : Int) := by omega
  clear h1 h2 h3 hx hend
  by_cases hn1 : n < 1
  ·have HN := Lib.hid hn1
   go_enter Tryz.func12, Tryz.ntmps12
   go_wp2_with fail
   go_quiet (fail)
   go_wp2_with fail
   go_quiet (fail)
   go_wp2_with fail
   go_ret
   exact ⟨⟨0, rfl, fun h => by have := HN.out; omega, fun _ => rfl⟩, HEND.out _, ((Frm.refl _ _).setCell (.inl (by simp)) _).drewN _⟩
  ·have hn2 : 1 ≤ n := by omega
   clear hn1
   by_cases hx0 : 0 ≤ x
   ·have e1 : 0 ≤ x % n := Int.emod_nonneg _ (by omega)
    have e2 : x % n < n := Int.emod_lt_of_pos _ (by omega)
    go_enter Tryz.func12, Tryz.ntmps12
    go_wp2_with fail
    go_quiet (fail)
    go_wp2_with fail
    go_quiet (fail)
    go_wp2_with fail
    go_ret
    exact ⟨⟨_, rfl, fun _ => ⟨e1, e2⟩, fun h => by omega⟩, HEND.out _, ((Frm.refl _ _).setCell (.inl (by simp)) _).drewN _⟩
   ·have hx0' : x < 0 := by omega
    have e1 : x.tmod n ≤ 0 := by
     have := Int.tmod_nonneg (a := -x) n (by omega); rw [Int.neg_tmod] at this; omega
    have e2 : -n < x.tmod n := by
     have := Int.tmod_lt_of_pos (-x) (show 0 < n by omega); rw [Int.neg_tmod] at this; omega
    clear hx0
    by_cases hz : x.tmod n < 0
    ·have hz2 := hz
     go_enter Tryz.func12, Tryz.ntmps12
     go_wp2_with fail
     go_quiet (fail)
     go_wp2_with fail
     go_quiet (fail)
     go_wp2_with fail
     go_ret
     exact ⟨⟨_, rfl, fun _ => ⟨by omega, by omega⟩, fun h => by omega⟩, HEND.out _, ((Frm.refl _ _).setCell (.inl (by simp)) _).drewN _⟩
    ·have hz2 : 0 ≤ x.tmod n := by omega
     clear hz
     go_enter Tryz.func12, Tryz.ntmps12
     go_wp2_with fail
     go_quiet (fail)
     go_wp2_with fail
     go_quiet (fail)
     go_wp2_with fail
     go_ret
     exact ⟨⟨_, rfl, fun _ => ⟨by omega, by omega⟩, fun h => by omega⟩, HEND.out _, ((Frm.refl _ _).setCell (.inl (by simp)) _).drewN _⟩
 ·have i2 : (xs.length : Int) ≤ (at0 : Int) := by omega
  clear h1 h2 h3 hend
  by_cases hn1 : n < 1
  ·have HN := Lib.hid hn1
   go_enter Tryz.func12, Tryz.ntmps12
   go_wp2_with fail
   go_quiet (fail)
   go_wp2_with fail
   go_ret
   exact ⟨⟨0, rfl, fun h => by have := HN.out; omega, fun _ => rfl⟩, HEND.out _, ((Frm.refl _ _).setCell (.inl (by simp)) _).drewN _⟩
  ·have hn2 : 1 ≤ n := by omega
   clear hn1
   ·have e1 : 0 ≤ (5 * (at0 : Int) + 3) % n := Int.emod_nonneg _ (by omega)
    have e2 : (5 * (at0 : Int) + 3) % n < n := Int.emod_lt_of_pos _ (by omega)
    go_enter Tryz.func12, Tryz.ntmps12
    go_wp2_with fail
    go_quiet (fail)
    go_wp2_with fail
    go_ret
    exact ⟨⟨_, rfl, fun _ => ⟨e1, e2⟩, fun h => by omega⟩, HEND.out _, ((Frm.refl _ _).setCell (.inl (by simp)) _).drewN _⟩

end Go.Proofs.YtikpcipkkhmcfaaGreat

/- The tape of numbers: contracts of Event, Visible; and Insert of the reference. -/
namespace Go.Proofs.YtikpcipkkhmcfaaGreat
open Go.RowKit

def events : List Int := [0, 0, 2, 3, 4, 2, 3, 1, 2, 5, 1025]
theorem events_ok (k : Nat) (h : k < 11) : ∃ e : Int, events[k]? = some e ∧ 0 ≤ e ∧ e ≤ 1025 := by
 have hl : events.length = 11 := rfl
 refine ⟨events[k], List.getElem?_eq_getElem (by omega), ?_⟩
 have : ∀ x ∈ events, 0 ≤ x ∧ x ≤ 1025 := by decide
 exact this _ (List.getElem_mem _)

set_option maxRecDepth 100000 in
set_option maxHeartbeats 1000000 in
theorem event_any (B tb N : Nat) (w : World) (h : TapeOk B w tb N) (hB : B ≤ tb) (hN : N ≤ 1000000000) :
  Calls Tryz.prog 37 #[.pointer (some ⟨tb, 0, none⟩)] w fun e w' => (∃ v : Int, e = .returned (.int .i64 v) ∧ 0 ≤ v ∧ v ≤ 1025) ∧ TapeOk B w' tb (N + 1) ∧ Frm [tb] w w' := by
 have f0 : Frm [] w (w.alloc (.cells (ints events).toArray 3)) := (Frm.refl [] w).alloc _
 have hr := RowAt.made w 3 (ints events) (ints events).toArray (by simp)
 have hn := next_any B tb N 11 _ (h.nil f0) hB hN (by decide)
 have htl : tb < w.heap.size := h.lt
 have HR := Lib.hid hr
 clear hr h
 simp only [ints, events, List.map_cons, List.map_nil] at hn f0
 go_enter Tryz.func37, Tryz.ntmps37
 go_wp2_with fail
 refine hn.mono ?_
 rintro e w1 ⟨⟨v, rfl, hv, _⟩, hT, hf⟩
 obtain ⟨k, rfl⟩ := Int.eq_ofNat_of_zero_le (hv (by decide)).1
 have hk := (hv (by decide)).2
 obtain ⟨x, hx, hx1, hx2⟩ := events_ok k (by omega)
 have hc := (HR.out.frm hf (by simp; omega)).cell (i := k) (v := .int .i64 x) (by simp [ints, hx])
 clear hn hv
 have F1 := (f0.mono (fq := [tb]) (by simp)).trans hf (by simp)
 go_wp2
 go_ret
 exact ⟨⟨x, rfl, hx1, hx2⟩, hT, F1⟩

end Go.Proofs.YtikpcipkkhmcfaaGreat

/- Rows of arcs that a call has made; Insert of the reference. -/
namespace Go.Proofs.YtikpcipkkhmcfaaGreat
open Go.RowKit

def flatA (row : List Arc) : List Value := row.flatMap fun a => [.int .i64 a.1, .int .i64 a.2]
theorem flatA_len (row : List Arc) : (flatA row).length = row.length * 2 := by
 induction row with
 | nil => rfl
 | cons a r ih => simp only [flatA, List.flatMap_cons, List.length_append, List.length_cons, List.length_nil] at ih ⊢; omega
theorem flatA_cons (a : Arc) (r : List Arc) : flatA (a :: r) = .int .i64 a.1 :: .int .i64 a.2 :: flatA r := rfl
theorem flatA_app (r s : List Arc) : flatA (r ++ s) = flatA r ++ flatA s := by simp [flatA]
theorem flatA_get : ∀ (row : List Arc) (j : Nat) (e t : Int), row[j]? = some (e, t) → (flatA row)[j * 2]? = some (.int .i64 e) ∧ (flatA row)[j * 2 + 1]? = some (.int .i64 t)
 | a :: r, 0, e, t, h => by simp at h; subst h; simp [flatA_cons]
 | a :: r, j + 1, e, t, h => by
  have := flatA_get r j e t (by simpa using h)
  rw [show (j + 1) * 2 = j * 2 + 1 + 1 by omega]
  simpa [flatA_cons] using this
 | [], _, _, _, h => by simp at h
theorem flatA_take (row : List Arc) (i : Nat) : flatA (row.take i) = (flatA row).take (i * 2) := by
 induction row generalizing i with
 | nil => simp [flatA]
 | cons a r ih =>
  cases i with
  | zero => simp [flatA]
  | succ i =>
   rw [show (i + 1) * 2 = i * 2 + 1 + 1 by omega]
   simp only [List.take_succ_cons, flatA_cons]
   rw [ih i]
theorem flatA_drop (row : List Arc) (i : Nat) : flatA (row.drop i) = (flatA row).drop (i * 2) := by
 induction row generalizing i with
 | nil => simp [flatA]
 | cons a r ih =>
  cases i with
  | zero => simp
  | succ i =>
   rw [show (i + 1) * 2 = i * 2 + 1 + 1 by omega]
   simp only [List.drop_succ_cons, flatA_cons]
   rw [ih i]
theorem flatA_one (row : List Arc) : ∀ u ∈ flatA row, u.oneCell' = true := by
 intro u hu
 simp only [flatA, List.mem_flatMap] at hu
 obtain ⟨a, _, ha⟩ := hu
 simp at ha
 rcases ha with rfl | rfl <;> rfl

/-- A row of arcs that the call has made (or nil). -/
abbrev OwnR (B : Nat) (w : World) (v : Value) (row : List Arc) : Prop := w.ownsRow B 66 2 v row.length (flatA row)

theorem rowR_of_own {B C : Nat} {w : World} {a : Option Addr} {cap : Nat} {row : List Arc} (h : OwnR B w (.slice a row.length cap) row) (hc : w.heap.size ≤ C) (hl : row.length ≤ 140737488355328) : RowR C w a cap row := by
 have hr := rd_of_owns h hc
 refine ⟨hr.le, hr.max, hl, fun j e t hj => ?_⟩
 have hg := flatA_get row j e t hj
 obtain ⟨b, o, ha, hb, h1⟩ := hr.cell _ _ hg.1
 obtain ⟨b', o', ha', hb', h2⟩ := hr.cell _ _ hg.2
 rw [ha] at ha'
 cases ha'
 exact ⟨b, o, ha, hb, by simpa [Nat.add_assoc] using h1, by simpa [Nat.add_assoc] using h2⟩

/-! ### Insert -/
def insAt (row : List Arc) (x : Arc) : Nat := (row.takeWhile (ltA · x)).length
def insA (row : List Arc) (x : Arc) : List Arc := if row[insAt row x]? = some x then row else row.take (insAt row x) ++ x :: row.drop (insAt row x)

theorem insAt_le (row : List Arc) (x : Arc) : insAt row x ≤ row.length := by
 unfold insAt
 have := (List.takeWhile_prefix (l := row) (ltA · x)).length_le
 exact this
theorem insA_len (row : List Arc) (x : Arc) : (insA row x).length ≤ row.length + 1 := by
 unfold insA
 split
 ·omega
 ·have := insAt_le row x
  simp; omega

/-- The search stands at i: all before are less. -/
theorem insAt_go {row : List Arc} {x : Arc} {i : Nat} (h : i ≤ insAt row x) {y : Arc} (hy : row[i]? = some y) : (ltA y x = true → i + 1 ≤ insAt row x) ∧ (ltA y x = false → insAt row x = i) := by
 induction row generalizing i with
 | nil => simp at hy
 | cons a r ih =>
  cases i with
  | zero =>
   simp at hy
   subst hy
   unfold insAt
   constructor
   ·intro hl; simp [hl]
   ·intro hl; simp [hl]
  | succ i =>
   simp at hy
   unfold insAt at h
   cases ha : ltA a x with
   | false => simp [ha] at h
   | true =>
    simp only [List.takeWhile_cons, ha, if_true, List.length_cons] at h
    have := ih (i := i) (by unfold insAt; omega) hy
    unfold insAt at this ⊢
    simp only [List.takeWhile_cons, ha, if_true, List.length_cons]
    constructor
    ·intro hl; have := this.1 hl; omega
    ·intro hl; have := this.2 hl; omega

end Go.Proofs.YtikpcipkkhmcfaaGreat

/- Contract of Insert of the reference. -/
namespace Go.Proofs.YtikpcipkkhmcfaaGreat
open Go.RowKit

theorem take_src {w w' : World} {g : Nat} {row : List Arc} {fp : List Nat} (h : RowAt w g 66 (flatA row)) (hf : Frm fp w w') (hn : g ∉ fp) (k : Nat) : ∀ (j : Nat) (u : Value), (flatA (row.take k))[j]? = some u → w'.cell? ((⟨g, 0, none⟩ : Addr).add j) = some u := by
 intro j u hu
 rw [Addr.add_lit, Nat.zero_add]
 refine (h.frm hf hn).cell ?_
 rw [flatA_take, List.getElem?_take] at hu
 split at hu
 ·exact hu
 ·cases hu
theorem drop_src {w w' : World} {g : Nat} {row : List Arc} {fp : List Nat} (h : RowAt w g 66 (flatA row)) (hf : Frm fp w w') (hn : g ∉ fp) (k : Nat) : ∀ (j : Nat) (u : Value), (flatA (row.drop k))[j]? = some u → w'.cell? ((⟨g, k * 2, none⟩ : Addr).add j) = some u := by
 intro j u hu
 rw [Addr.add_lit]
 refine (h.frm hf hn).cell ?_
 rw [flatA_drop, List.getElem?_drop] at hu
 exact hu

/-- append to a row of arcs that the call has made: n elements, N behind it. -/
theorem wpl_app_arc {w : World} {ops : Array Oper} {rest : List Oper} {o : Oper} {a : Act} {Q : Exit → Act → World → Prop} (hgd : o.guard = none) (s x : Operand)
  (ho : o.op = .call { callee := .builtin .append, args := #[s, x], argTypes := #[63, 63] })
  (B n N : Nat) (v : Value) (row : List Arc) (hs : a.eval s = v) (hown : OwnR B w v row) (hn : row.length = n) (ad : Addr) (m c : Nat) (r2 : List Arc) (hx : a.eval x = .slice (some ad) m c) (hm : r2.length = m)
  (hnews : ∀ (j : Nat) (u : Value), (flatA r2)[j]? = some u → w.cell? (ad.add j) = some u) (hN : n + m = N) (hb : N ≤ 4000000) (hB : B ≤ w.heap.size)
  (h : ∀ a' cp w', OwnR B w' (.slice a' N cp) (row ++ r2) → (∀ w0 : World, w0.heap.size ≤ B → Frm [] w0 w → Frm [] w0 w') → wpList Tryz.prog ops Q rest (a.put o.dst (.slice a' N cp)) w') : wpList Tryz.prog ops Q (o :: rest) a w := by
 obtain ⟨i0, hi, hz0, hz1, hz2⟩ := info_parts infoArc
 subst hm hn hN
 refine wpList_append_own w hgd s x 63 ho B 66 i0 (.agg #[.int .i64 0, .int .i64 0]) 2 16 Tryz.underlying63 hi hz0 hz1 hz2 rfl (by decide) v row.length (flatA row) hs hown ad r2.length c (flatA r2) hx (flatA_len r2) hnews (flatA_one r2) (by unfold maxLen; omega) (by omega) hB ?_
 intro v' w' hown' hgr _
 have hown2 : OwnR B w' v' (row ++ r2) := by
  have : (row ++ r2).length = row.length + r2.length := List.length_append
  unfold OwnR
  rw [this, flatA_app]
  exact hown'
 obtain ⟨a', cp, rfl, _⟩ := owns_shape (ownsB_mono hown' (Nat.zero_le B))
 exact h a' cp w' hown2 (fun w0 h0 hF => hF.grown hgr (fun k hk => .inr (by have := (hown.lt k hk).1; omega)))

theorem own_empty (w : World) (B : Nat) (hB : B ≤ w.heap.size) : OwnR B (w.alloc (.cells #[] 66)) (.slice (some ⟨w.heap.size, 0, none⟩) 0 0) [] :=
 World.ownsRow_made w #[] 0 hB (by decide) rfl

set_option maxRecDepth 100000 in
set_option maxHeartbeats 2000000 in
theorem insert_some2 (B g cap : Nat) (row : List Arc) (x y : Int) (w : World) (hB0 : B ≤ w.heap.size) (h : OwnR B w (.slice (some ⟨g, 0, none⟩) row.length cap) row) (hl : row.length ≤ 1000000) (hpos : 0 < row.length) :
  Calls Tryz.prog 36 #[.slice (some ⟨g, 0, none⟩) row.length cap, .agg #[.int .i64 x, .int .i64 y]] w fun e w' => ∃ a cp, e = .returned (.slice a (insA row (x, y)).length cp) ∧ (a = some ⟨g, 0, none⟩ ∨ ∀ k, (Value.slice a (insA row (x, y)).length cp).ownBlock = some k → w.heap.size ≤ k) ∧ OwnR B w' (.slice a (insA row (x, y)).length cp) (insA row (x, y)) ∧ Frm [] w w' := by
 obtain ⟨i0, hi, hz0, hz1, hz2⟩ := info_parts infoArc
 have hrd := rd_of_owns h (Nat.le_refl _)
 have hcap := hrd.le
 have hmax := hrd.max
 have hlen := hrd.lt
 have hrow : RowAt w g 66 (flatA row) := by
  rcases h.2 with ⟨h0, _⟩ | ⟨g', cp', cur, h0, hb, hg, h1, h2, h3, h4⟩
  ·cases h0
  ·obtain ⟨rfl, rfl⟩ : g = g' ∧ cap = cp' := by simpa using h0
   exact ⟨cur, hg, by rw [flatA_len]; exact h4⟩
 have f0 : Frm [] w (w.alloc (.cells #[.int .i64 x, .int .i64 y] 66)) := (Frm.refl [] w).alloc _
 have hbox := RowAt.made w 66 [.int .i64 x, .int .i64 y] #[.int .i64 x, .int .i64 y] rfl
 have HROW := Lib.hid hrow
 have HBOX := Lib.hid hbox
 have HO := Lib.hid h
 clear h hrd hrow hbox
 go_enter Tryz.func36, Tryz.ntmps36
 go_wp2_with fail
 go_loopg [5] row.length (fun q i wr => ∃ (k : Nat), q = row.length - k ∧ k ≤ insAt row (x, y) ∧ i = .int .i64 k ∧ Frm [] (w.alloc (.cells #[.int .i64 x, .int .i64 y] 66)) wr)
 case atStart => exact ⟨0, rfl, Nat.zero_le _, rfl, Frm.refl _ _⟩
 case round =>
  obtain ⟨k, rfl, hk, rfl, hF⟩ := hrel
  have hkl : k ≤ row.length := Nat.le_trans hk (insAt_le _ _)
  have HF := Lib.hid hF
  have hb := HBOX.out.frm hF (by simp)
  have q0 := hb.cell (i := 0) rfl
  have q1 := hb.cell (i := 1) rfl
  have F := f0.trans hF (by simp)
  have HFF := Lib.hid F
  clear hF hb F
  by_cases hlt : k < row.length
  ·obtain ⟨⟨e, t⟩, harc⟩ : ∃ z, row[k]? = some z := ⟨_, List.getElem?_eq_getElem hlt⟩
   have hg := flatA_get row k e t harc
   have d1 := (HROW.out.frm HFF.out (by simp)).cell hg.1
   have d2 := (HROW.out.frm HFF.out (by simp)).cell hg.2
   have hgo := insAt_go hk harc
   have hle := less_any (e, t) (x, y)
   have HARC := Lib.hid harc
   have D1 := Lib.hid d1
   have D2 := Lib.hid d2
   have Q0 := Lib.hid q0
   have Q1 := Lib.hid q1
   have i1 : (k : Int) < (row.length : Int) := by omega
   have i2 : (0 : Int) ≤ (k : Int) := by omega
   have hb1 : decide ((k : Int) < (row.length : Int)) = true := by simpa using hlt
   clear harc hg d1 d2 q0 q1
   cases hlt2 : ltA (e, t) (x, y) with
   | true =>
    have hk2 := hgo.1 hlt2
    rw [hlt2] at hle
    have HLE := Lib.hid hle
    clear hgo hlt2 hle
    go_wp2_with fail
    go_region_held3 (fun w' => w'.cell? ⟨w.heap.size, 0, none⟩ = some (.int .i64 x) ∧ w'.cell? ⟨w.heap.size, 1, none⟩ = some (.int .i64 y) ∧ w'.cell? ⟨g, k * 2, none⟩ = some (.int .i64 e) ∧ w'.cell? ⟨g, k * 2 + 1, none⟩ = some (.int .i64 t)) (first | exact ⟨Q0.out, Q1.out, D1.out, D2.out⟩ | exact ⟨hf5.cell Q0.out (by simp), hf5.cell Q1.out (by simp), hf5.cell D1.out (by simp), hf5.cell D2.out (by simp)⟩) (first | (go_at_call 66; refine (HLE.out _).mono ?_; rintro e5 w5 ⟨rfl, hf5⟩))
    go_wp2_with fail
    go_roundg (row.length - (k + 1))
    case rel => exact ⟨k + 1, rfl, hk2, by go_num, HF.out.drew.trans hf5 (by simp)⟩
    case measure => omega
   | false =>
    have hk2 := hgo.2 hlt2
    rw [hlt2] at hle
    have HLE := Lib.hid hle
    have HK2 := Lib.hid hk2
    clear hgo hlt2 hle hk2
    go_wp2_with fail
    go_region_held3 (fun w' => w'.cell? ⟨w.heap.size, 0, none⟩ = some (.int .i64 x) ∧ w'.cell? ⟨w.heap.size, 1, none⟩ = some (.int .i64 y) ∧ w'.cell? ⟨g, k * 2, none⟩ = some (.int .i64 e) ∧ w'.cell? ⟨g, k * 2 + 1, none⟩ = some (.int .i64 t)) (first | exact ⟨Q0.out, Q1.out, D1.out, D2.out⟩ | exact ⟨hf5.cell Q0.out (by simp), hf5.cell Q1.out (by simp), hf5.cell D1.out (by simp), hf5.cell D2.out (by simp)⟩) (first | (go_at_call 66; refine (HLE.out _).mono ?_; rintro e5 w5 ⟨rfl, hf5⟩))
    go_wp2_with fail
    have FF5 := HFF.out.drew.trans hf5 (by simp)
    have G5 := HF.out.drew.trans hf5 (by simp)
    have q0 := hf5.cell Q0.out (by simp)
    have q1 := hf5.cell Q1.out (by simp)
    have d1 := hf5.cell D1.out (by simp)
    have d2 := hf5.cell D2.out (by simp)
    by_cases heq : e = x ∧ t = y
    ·obtain ⟨rfl, rfl⟩ := heq
     have HINS : Hid (insA row (e, t) = row) := by
      show insA row (e, t) = row
      unfold insA
      rw [HK2.out, if_pos HARC.out]
     clear hf5
     go_quiet (fail)
     go_wp2_with fail
     go_ret
     rw [HINS.out]
     exact ⟨_, cap, rfl, .inl rfl, ownsB_frm HO.out (FF5.drewN _) (by simp), FF5.drewN _⟩
    ·have HINS : Hid (insA row (x, y) = row.take k ++ (x, y) :: row.drop k) := by
      show insA row (x, y) = _
      unfold insA
      rw [HK2.out, if_neg]
      rw [HARC.out]
      intro h9
      simp only [Option.some.injEq, Prod.mk.injEq] at h9
      exact heq h9
     have hor : (e == x) = false ∨ ((e == x) = true ∧ (t == y) = false) := by
      by_cases h1 : e = x
      ·exact .inr ⟨by simpa using h1, by simpa using fun h2 => heq ⟨h1, h2⟩⟩
      ·exact .inl (by simpa using h1)
     have hkc : ¬ k = cap := by omega
     clear heq hf5
     rcases hor with hne | ⟨hne1, hne⟩
     all_goals
      go_quiet (fail)
      have hkt : (row.take k).length = k := by rw [List.length_take]; omega
      have hkt2 : (row.take k ++ [(x, y)]).length = k + 1 := by rw [List.length_append, hkt]; rfl
      have HKT := Lib.hid hkt
      have HKT2 := Lib.hid hkt2
      clear hkt hkt2
      go_wp2_with (first | (at_builtin; refine wpl_app_arc rfl (.tmp 34) (.tmp 37) rfl (w.heap.size + 1) 0 k _ [] rfl (own_empty _ _ (by simpa using G5.size)) rfl ⟨g, 0, none⟩ k cap (row.take k) rfl HKT.out (take_src HROW.out ((FF5.drewN nq).alloc _) (by simp) k) (Nat.zero_add k) (by omega) (by have := G5.size; simp at this ⊢; omega) ?_) | (at_builtin; fail))
      intro a6 cp6 w6 hown6 hf6
      have G6 := hf6 (w.alloc (.cells #[.int .i64 x, .int .i64 y] 66)) (by simp) ((G5.drewN nq).alloc _)
      have F6 := f0.trans G6 (by simp)
      have p0 := (HBOX.out.frm G6 (by simp)).cell (i := 0) rfl
      have p1 := (HBOX.out.frm G6 (by simp)).cell (i := 1) rfl
      clear hf6 FF5 q0 q1 d1 d2
      go_wp2_with (first | (at_builtin; refine wpl_app_arc rfl (.tmp 39) (.tmp 41) rfl (w.heap.size + 1) k (k + 1) (.slice a6 k cp6) (row.take k) rfl (hown6.alloc _) HKT.out ⟨w6.heap.size, 0, none⟩ 1 1 [(x, y)] rfl rfl (cells_new w6 [.int .i64 x, .int .i64 y] _) rfl (by omega) (by have := G6.size; simp at this ⊢; omega) ?_) | (at_builtin; fail))
      intro a7 cp7 w7 hown7 hf7
      have G7 := hf7 (w.alloc (.cells #[.int .i64 x, .int .i64 y] 66)) (by simp) (G6.alloc _)
      have F7 := f0.trans G7 (by simp)
      clear hf7 p0 p1 hown6
      go_wp2_with (first | (at_builtin; refine wpl_app_arc rfl (.tmp 43) (.tmp 46) rfl (w.heap.size + 1) (k + 1) (row.length + 1) (.slice a7 (k + 1) cp7) (row.take k ++ [(x, y)]) rfl hown7 HKT2.out ⟨g, k * 2, none⟩ (row.length - k) (cap - k) (row.drop k) rfl (by rw [List.length_drop]) (drop_src HROW.out F7 (by simp) k) (by omega) (by omega) (by have := G7.size; simp at this ⊢; omega) ?_) | (at_builtin; fail))
      intro a8 cp8 w8 hown8 hf8
      have F8 := f0.trans (hf8 (w.alloc (.cells #[.int .i64 x, .int .i64 y] 66)) (by simp) G7) (by simp)
      clear hf8 hown7
      go_wp2_with fail
      go_ret
      rw [HINS.out]
      have hlen9 : (row.take k ++ (x, y) :: row.drop k).length = row.length + 1 := by simp; omega
      exact ⟨a8, cp8, by rw [hlen9]; rfl, .inr (fun k e => by rw [hlen9] at e; have := (hown8.lt k e).1; omega), by rw [hlen9]; exact ownsB_mono hown8 (by omega), F8⟩
  ·obtain rfl : k = row.length := by omega
   have hia : insAt row (x, y) = row.length := Nat.le_antisymm (insAt_le _ _) hk
   have HINS : Hid (insA row (x, y) = row ++ [(x, y)]) := by
    show insA row (x, y) = _
    unfold insA
    rw [hia, if_neg (by simp)]
    simp
   have hb1 : decide ((row.length : Int) < (row.length : Int)) = false := by simp
   have G5 := HF.out
   have FF5 := HFF.out
   have hne0 : ¬ row.length = 0 := by omega
   have hne1 : ¬ (0 = row.length) := by omega
   clear hia hk HF HFF
   by_cases hkc : row.length = cap
   ·have HKC := Lib.hid hkc
    clear hkc
    have hc0 : cap = row.length := HKC.out.symm
    subst hc0
    go_wp2_with fail
    go_quiet (fail)
    go_wp2_with fail
    go_quiet (fail)
    go_wp2_with (first | (at_builtin; refine wpl_app_arc rfl (.tmp 34) (.tmp 37) rfl (w.heap.size + 1) 0 row.length _ [] rfl (own_empty _ _ (by simpa using G5.size)) rfl ⟨g, 0, none⟩ row.length row.length row rfl rfl (fun j u hu => take_src HROW.out ((FF5.drewN _).alloc _) (by simp) row.length j u (by rw [List.take_length]; exact hu)) (Nat.zero_add _) (by omega) (by have := G5.size; simp at this ⊢; omega) ?_) | (at_builtin; fail))
    intro a6 cp6 w6 hown6 hf6
    have G6 := hf6 (w.alloc (.cells #[.int .i64 x, .int .i64 y] 66)) (by simp) ((G5.drewN _).alloc _)
    have F6 := f0.trans G6 (by simp)
    have p0 := (HBOX.out.frm G6 (by simp)).cell (i := 0) rfl
    have p1 := (HBOX.out.frm G6 (by simp)).cell (i := 1) rfl
    clear hf6 FF5 q0 q1
    go_wp2_with (first | (at_builtin; refine wpl_app_arc rfl (.tmp 39) (.tmp 41) rfl (w.heap.size + 1) row.length (row.length + 1) (.slice a6 row.length cp6) row rfl (hown6.alloc _) rfl ⟨w6.heap.size, 0, none⟩ 1 1 [(x, y)] rfl rfl (cells_new w6 [.int .i64 x, .int .i64 y] _) rfl (by omega) (by have := G6.size; simp at this ⊢; omega) ?_) | (at_builtin; fail))
    intro a7 cp7 w7 hown7 hf7
    have G7 := hf7 (w.alloc (.cells #[.int .i64 x, .int .i64 y] 66)) (by simp) (G6.alloc _)
    have F7 := f0.trans G7 (by simp)
    clear hf7 p0 p1 hown6
    go_wp2_with (first | (at_builtin; refine wpl_app_arc rfl (.tmp 43) (.tmp 46) rfl (w.heap.size + 1) (row.length + 1) (row.length + 1) (.slice a7 (row.length + 1) cp7) (row ++ [(x, y)]) rfl hown7 (by simp) ⟨g, 0, none⟩ 0 0 [] rfl rfl (by intro j u hu; simp [flatA] at hu) rfl (by omega) (by have := G7.size; simp at this ⊢; omega) ?_) | (at_builtin; fail))
    intro a8 cp8 w8 hown8 hf8
    have F8 := f0.trans (hf8 (w.alloc (.cells #[.int .i64 x, .int .i64 y] 66)) (by simp) G7) (by simp)
    clear hf8 hown7
    go_wp2_with fail
    go_ret
    rw [HINS.out]
    have hlen9 : (row ++ [(x, y)]).length = row.length + 1 := by simp
    have own9 : OwnR (w.heap.size + 1) w8 (.slice a8 (row.length + 1) cp8) (row ++ [(x, y)]) := by first | exact hown8 | simpa using hown8
    exact ⟨a8, cp8, by rw [hlen9]; rfl, .inr (fun k e => by rw [hlen9] at e; have := (own9.lt k e).1; omega), by rw [hlen9]; exact ownsB_mono own9 (by omega), F8⟩
   ·have hkc2 : ¬ row.length = cap := hkc
    go_wp2_with fail
    go_quiet (fail)
    go_wp2_with fail
    go_quiet (fail)
    go_wp2_with (first | (at_builtin; refine wpl_app_arc rfl (.tmp 34) (.tmp 37) rfl (w.heap.size + 1) 0 row.length _ [] rfl (own_empty _ _ (by simpa using G5.size)) rfl ⟨g, 0, none⟩ row.length cap row rfl rfl (fun j u hu => take_src HROW.out ((FF5.drewN _).alloc _) (by simp) row.length j u (by rw [List.take_length]; exact hu)) (Nat.zero_add _) (by omega) (by have := G5.size; simp at this ⊢; omega) ?_) | (at_builtin; fail))
    intro a6 cp6 w6 hown6 hf6
    have G6 := hf6 (w.alloc (.cells #[.int .i64 x, .int .i64 y] 66)) (by simp) ((G5.drewN _).alloc _)
    have F6 := f0.trans G6 (by simp)
    have p0 := (HBOX.out.frm G6 (by simp)).cell (i := 0) rfl
    have p1 := (HBOX.out.frm G6 (by simp)).cell (i := 1) rfl
    clear hf6 FF5 q0 q1
    go_wp2_with (first | (at_builtin; refine wpl_app_arc rfl (.tmp 39) (.tmp 41) rfl (w.heap.size + 1) row.length (row.length + 1) (.slice a6 row.length cp6) row rfl (hown6.alloc _) rfl ⟨w6.heap.size, 0, none⟩ 1 1 [(x, y)] rfl rfl (cells_new w6 [.int .i64 x, .int .i64 y] _) rfl (by omega) (by have := G6.size; simp at this ⊢; omega) ?_) | (at_builtin; fail))
    intro a7 cp7 w7 hown7 hf7
    have G7 := hf7 (w.alloc (.cells #[.int .i64 x, .int .i64 y] 66)) (by simp) (G6.alloc _)
    have F7 := f0.trans G7 (by simp)
    clear hf7 p0 p1 hown6
    go_wp2_with (first | (at_builtin; refine wpl_app_arc rfl (.tmp 43) (.tmp 46) rfl (w.heap.size + 1) (row.length + 1) (row.length + 1) (.slice a7 (row.length + 1) cp7) (row ++ [(x, y)]) rfl hown7 (by simp) ⟨g, row.length * 2, none⟩ 0 (cap - row.length) [] rfl rfl (by intro j u hu; simp [flatA] at hu) rfl (by omega) (by have := G7.size; simp at this ⊢; omega) ?_) | (at_builtin; fail))
    intro a8 cp8 w8 hown8 hf8
    have F8 := f0.trans (hf8 (w.alloc (.cells #[.int .i64 x, .int .i64 y] 66)) (by simp) G7) (by simp)
    clear hf8 hown7
    go_wp2_with fail
    go_ret
    rw [HINS.out]
    have hlen9 : (row ++ [(x, y)]).length = row.length + 1 := by simp
    have own9 : OwnR (w.heap.size + 1) w8 (.slice a8 (row.length + 1) cp8) (row ++ [(x, y)]) := by first | exact hown8 | simpa using hown8
    exact ⟨a8, cp8, by rw [hlen9]; rfl, .inr (fun k e => by rw [hlen9] at e; have := (own9.lt k e).1; omega), by rw [hlen9]; exact ownsB_mono own9 (by omega), F8⟩
theorem insert_some (B g cap : Nat) (row : List Arc) (x y : Int) (w : World) (hB0 : B ≤ w.heap.size) (h : OwnR B w (.slice (some ⟨g, 0, none⟩) row.length cap) row) (hl : row.length ≤ 1000000) (hpos : 0 < row.length) :
  Calls Tryz.prog 36 #[.slice (some ⟨g, 0, none⟩) row.length cap, .agg #[.int .i64 x, .int .i64 y]] w fun e w' => ∃ a cp, e = .returned (.slice a (insA row (x, y)).length cp) ∧ OwnR B w' (.slice a (insA row (x, y)).length cp) (insA row (x, y)) ∧ Frm [] w w' :=
 (insert_some2 B g cap row x y w hB0 h hl hpos).mono fun _ _ ⟨a, cp, h1, _, h2, h3⟩ => ⟨a, cp, h1, h2, h3⟩

end Go.Proofs.YtikpcipkkhmcfaaGreat

/- The tape and rows to be read: all in A1, A2 (the graph seat). -/

/- Rows that are only read, rows of the call's own, appends: general, of no program's part. (Cut from the disk's E2, E5, E7, E9, EA, EE.) -/
namespace Go.Proofs.YtikpcipkkhmcfaaGreat
open Go.RowKit

/-- A row of n elements of 'size' cells that is only read; its block is none of F. -/
def RowV (w : World) (F : List Nat) (v : Value) (n size : Nat) (xs : List Value) : Prop :=
 xs.length = n * size ∧ ∃ a c, v = .slice a n c ∧ n ≤ c ∧ c ≤ maxLen ∧ (a = none → c = 0) ∧ ∀ (i : Nat) (u : Value), xs[i]? = some u → ∃ b o, a = some ⟨b, o, none⟩ ∧ b ∉ F ∧ b < w.heap.size ∧ w.cell? ⟨b, o + i, none⟩ = some u
theorem RowV.step {w w' : World} {F F' : List Nat} {v : Value} {n size : Nat} {xs : List Value} {fp : List Nat} (h : RowV w F v n size xs) (hf : Frm fp w w') (hn : ∀ k ∈ fp, k ∈ F ∨ w.heap.size ≤ k) (hF : ∀ k ∈ F', k ∈ F ∨ w.heap.size ≤ k) : RowV w' F' v n size xs := by
 obtain ⟨h1, a, c, e, h2, h3, h5, h4⟩ := h
 refine ⟨h1, a, c, e, h2, h3, h5, fun i u hu => ?_⟩
 obtain ⟨b, o, e2, hb, hl, hc⟩ := h4 i u hu
 refine ⟨b, o, e2, fun hm => ?_, Nat.lt_of_lt_of_le hl hf.size, hf.cell hc (fun hm => ?_)⟩
 ·rcases hF b hm with h9 | h9
  ·exact hb h9
  ·omega
 ·rcases hn _ hm with h9 | h9
  ·exact hb h9
  ·simp at h9; omega
theorem RowV.frm {w w' : World} {F : List Nat} {v : Value} {n size : Nat} {xs : List Value} {fp : List Nat} (h : RowV w F v n size xs) (hf : Frm fp w w') (hn : ∀ k ∈ fp, k ∈ F ∨ w.heap.size ≤ k) : RowV w' F v n size xs := h.step hf hn (fun _ hk => .inl hk)
theorem RowV.nil {w w' : World} {F : List Nat} {v : Value} {n size : Nat} {xs : List Value} (h : RowV w F v n size xs) (hf : Frm [] w w') : RowV w' F v n size xs := h.frm hf (by simp)
theorem RowV.less {w : World} {F F' : List Nat} {v : Value} {n size : Nat} {xs : List Value} (h : RowV w F v n size xs) (hF : ∀ k ∈ F', k ∈ F) : RowV w F' v n size xs := h.step (Frm.refl [] w) (by simp) (fun k hk => .inl (hF k hk))
/-- A row that has just been made is a row to be read. -/
theorem rowV_of_owns {w : World} {B e n size : Nat} {v : Value} {xs : List Value} {F : List Nat} (h : w.ownsRow B e size v n xs) (hF : ∀ k ∈ F, v.ownBlock ≠ some k) : RowV w F v n size xs := by
 refine ⟨h.1, ?_⟩
 rcases h.2 with ⟨rfl, rfl⟩ | ⟨g, cap, cur, rfl, _, hg, h1, h2, h3, h4⟩
 ·refine ⟨none, 0, rfl, Nat.le_refl _, Nat.zero_le _, fun _ => rfl, fun i u hu => ?_⟩
  have hx : xs = [] := List.eq_nil_of_length_eq_zero (by have := h.1; simpa using this)
  rw [hx] at hu
  simp at hu
 ·refine ⟨some ⟨g, 0, none⟩, cap, rfl, h1, h2, (fun h => by cases h), fun i u hu => ⟨g, 0, rfl, fun hm => hF g hm rfl, (Array.getElem?_eq_some_iff.1 hg).1, ?_⟩⟩
  rw [Nat.zero_add]
  exact RowAt.cell (xs := xs) (e := e) ⟨cur, hg, by rw [h.1]; exact h4⟩ hu
theorem frm_own {w w1 w2 : World} {B e n size : Nat} {v : Value} {xs : List Value} (h : Frm [] w w1) (ho : w1.ownsRow B e size v n xs) (hB : w.heap.size ≤ B) (hf : Frm v.ownBlock.toList w1 w2) : Frm [] w w2 :=
 h.trans hf (fun x hx => .inr (Nat.le_trans hB (ho.lt x (by simpa using hx)).1))
/-- append(s, y...): s is a row of the call's own, y a row that is read. -/
theorem app_row {w : World} {ops : Array Oper} {rest : List Oper} {o : Oper} {a : Act} {Q : Exit → Act → World → Prop} (hgd : o.guard = none) (s x : Operand) (t e : TypeId) (z : Value) (size bytes : Nat)
  (ho : o.op = .call { callee := .builtin .append, args := #[s, x], argTypes := #[t, t] }) (ht : Tryz.prog.underlying t = some (.slice e))
  (hinfo : (Tryz.prog.info? e).map (fun i => (i.zero, i.size, i.bytes)) = some (some z, size, bytes)) (hzs : z.cells.size = size) (hsz : 0 < size) (hby : bytes ≤ 1000)
  (B n : Nat) (v : Value) (xs : List Value) (hs : a.eval s = v) (hown : w.ownsRow B e size v n xs) (u : Value) (m : Nat) (ys : List Value) (F : List Nat) (hx : a.eval x = u) (hy : RowV w F u m size ys) (h1 : ∀ u ∈ ys, u.oneCell' = true)
  (N : Nat) (hN : n + m = N) (hb : N ≤ 100000000) (hB : B ≤ w.heap.size)
  (h : ∀ a' cp w', w'.ownsRow B e size (.slice a' N cp) N (xs ++ ys) → Frm v.ownBlock.toList w w' → (∀ k, (Value.slice a' N cp).ownBlock = some k → v.ownBlock = some k ∨ k = w.heap.size) → wpList Tryz.prog ops Q rest (a.put o.dst (.slice a' N cp)) w') : wpList Tryz.prog ops Q (o :: rest) a w := by
 obtain ⟨i0, hi, hz0, hz1, hz2⟩ := info_parts hinfo
 obtain ⟨hl, ad, c, rfl, hmc, hcm, hnil, hcell⟩ := hy
 subst hN
 cases ad with
 | none =>
  have h0 := hnil rfl
  subst h0
  have hm : m = 0 := by omega
  subst hm
  have hys : ys = [] := List.eq_nil_of_length_eq_zero (by rw [hl, Nat.zero_mul])
  subst hys
  obtain ⟨a', cp, rfl, _⟩ := owns_shape (ownsB_mono hown (Nat.zero_le _))
  refine wpList_append_own_none hgd s x t ho B e i0 size ht hi _ n xs hs hown hx ?_
  exact h a' cp w (by rw [List.append_nil]; exact hown) (Frm.refl _ _) (fun k hk => .inl hk)
 | some p =>
  refine Go.wpList_append_own_at w hgd s x t ho B e i0 z size bytes ht hi hz0 hz1 hz2 hzs hsz v n xs hs hown p m c ys hx hl (fun j u hj => ?_) h1 (by unfold maxLen; omega) (by calc (n + m) * bytes ≤ 100000000 * 1000 := Nat.mul_le_mul hb hby
   _ ≤ _ := by decide) hB ?_
  ·obtain ⟨b, o', e9, _, _, hc⟩ := hcell j u hj
   cases e9
   rw [Addr.add_lit]
   exact hc
  ·intro v' w' hown' hgr _ hloc
   obtain ⟨a', cp, rfl, _⟩ := owns_shape (ownsB_mono hown' (Nat.zero_le _))
   refine h a' cp w' hown' ((Frm.refl _ _).grown hgr (fun k hk => .inl (by simp [hk]))) (fun k hk => ?_)
   rcases hloc with h9 | h9
   ·exact .inl (by rw [← h9]; exact hk)
   ·rw [h9] at hk
    exact .inr (by simpa using hk.symm)

/-- Parts of a row. -/
theorem RowV.init {w : World} {F : List Nat} {a : Addr} {n c size : Nat} {xs : List Value} (h : RowV w F (.slice (some a) n c) n size xs) {k : Nat} (hk : k ≤ n) : RowV w F (.slice (some a) k c) k size (xs.take (k * size)) := by
 obtain ⟨h1, a, c', e, h2, h3, h5, h4⟩ := h
 cases e
 refine ⟨?_, _, _, rfl, Nat.le_trans hk h2, h3, (fun h => by cases h), fun j u hj => ?_⟩
 ·rw [List.length_take, h1]
  exact Nat.min_eq_left (Nat.mul_le_mul_right _ hk)
 ·rw [List.getElem?_take] at hj
  split at hj
  ·exact h4 _ _ hj
  ·cases hj
theorem RowV.tail {w : World} {F : List Nat} {b n c size : Nat} {xs : List Value} (h : RowV w F (.slice (some ⟨b, 0, none⟩) n c) n size xs) (k : Nat) : RowV w F (.slice (some ⟨b, k * size, none⟩) (n - k) (c - k)) (n - k) size (xs.drop (k * size)) := by
 obtain ⟨h1, a, c', e, h2, h3, h5, h4⟩ := h
 cases e
 refine ⟨?_, _, _, rfl, Nat.sub_le_sub_right h2 _, Nat.le_trans (Nat.sub_le _ _) h3, (fun h => by cases h), fun j u hj => ?_⟩
 ·rw [List.length_drop, h1, ← Nat.sub_mul]
 ·rw [List.getElem?_drop] at hj
  obtain ⟨b', o, e9, hb, hl, hc⟩ := h4 _ _ hj
  cases e9
  rw [Nat.zero_add] at hc
  exact ⟨b, k * size, rfl, hb, hl, hc⟩
theorem RowV.zero (w : World) (F : List Nat) (p : Addr) (n c size : Nat) (hn : n = 0) (hc : c ≤ maxLen) : RowV w F (.slice (some p) n c) n size [] := ⟨by rw [hn, Nat.zero_mul]; rfl, some p, c, rfl, by omega, hc, (fun h => by cases h), fun i u hu => by simp at hu⟩
theorem RowV.nil0 (w : World) (F : List Nat) (size : Nat) : RowV w F (.slice none 0 0) 0 size [] := ⟨(Nat.zero_mul _).symm, none, 0, rfl, Nat.le_refl _, Nat.zero_le _, fun _ => rfl, fun i u hu => by simp at hu⟩
theorem owns_made0 (w : World) (e : TypeId) (size : Nat) : (w.alloc (.cells #[] e)).ownsRow w.heap.size e size (.slice (some ⟨w.heap.size, 0, none⟩) 0 0) 0 [] :=
 ⟨(Nat.zero_mul _).symm, .inr ⟨w.heap.size, 0, #[], rfl, Nat.le_refl _, heap_alloc_new w _, Nat.le_refl _, Nat.zero_le _, (Nat.zero_mul _).symm, by simp⟩⟩
theorem row_made1 (w : World) (o : Obj) (e : TypeId) (xs : List Value) (A : Array Value) (hA : A.toList.take xs.length = xs) : RowAt ((w.alloc o).alloc (.cells A e)) (w.heap.size + 1) e xs := by
 have h := RowAt.made (w.alloc o) e xs A hA
 have hs : (w.alloc o).heap.size = w.heap.size + 1 := by simp
 rwa [hs] at h
theorem rowV_cells {w : World} {F : List Nat} {x : Nat} {e : TypeId} {n size c : Nat} {xs : List Value} (h : RowAt w x e xs) (hl : xs.length = n * size) (hc : n ≤ c) (hm : c ≤ maxLen) (hx : x ∉ F) : RowV w F (.slice (some ⟨x, 0, none⟩) n c) n size xs :=
 ⟨hl, _, _, rfl, hc, hm, (fun h => by cases h), fun i u hu => ⟨x, 0, rfl, hx, h.lt, by rw [Nat.zero_add]; exact h.cell hu⟩⟩
theorem ownsB_setCell {w : World} {B e size : Nat} {v : Value} {n : Nat} {xs : List Value} {g : Nat} (h : w.ownsRow B e size v n xs) (hg : v.ownBlock = some g) (i : Nat) (u : Value) :
  (w.setCell ⟨g, i, none⟩ u).ownsRow B e size v n (xs.set i u) := by
 refine ⟨by rw [List.length_set]; exact h.1, ?_⟩
 rcases h.2 with ⟨rfl, _⟩ | ⟨g', cap, cur, rfl, h0, hgg, h1, h2, h3, h4⟩
 ·simp [Value.ownBlock] at hg
 ·simp [Value.ownBlock] at hg
  subst hg
  refine .inr ⟨g', cap, cur.setIfInBounds i u, rfl, h0, by simp [World.setCell, Array.getElem?_modify, hgg], h1, h2, by simpa using h3, ?_⟩
  rw [Array.toList_setIfInBounds, List.take_set, h4]
theorem ownsB_some {w : World} {B e size : Nat} {v : Value} {n : Nat} {xs : List Value} (h : w.ownsRow B e size v n xs) (hn : 0 < n) : ∃ g cap, v = .slice (some ⟨g, 0, none⟩) n cap ∧ B ≤ g ∧ n ≤ cap ∧ cap ≤ maxLen ∧ RowAt w g e xs := by
 rcases h.2 with ⟨_, h0⟩ | ⟨g, cap, cur, rfl, h0, hgg, h1, h2, h3, h4⟩
 ·omega
 ·exact ⟨g, cap, rfl, h0, h1, h2, cur, hgg, by rw [h.1]; exact h4⟩
theorem RowV.shape {w : World} {F : List Nat} {v : Value} {n size : Nat} {xs : List Value} (h : RowV w F v n size xs) : ∃ a c, v = .slice a n c := by
 obtain ⟨_, a, c, e, _⟩ := h
 exact ⟨a, c, e⟩
theorem drop_get {α : Type} {xs : List α} {k : Nat} {y : α} (h : xs[k]? = some y) : xs.drop k = y :: xs.drop (k + 1) := by
 obtain ⟨h1, h2⟩ := List.getElem?_eq_some_iff.1 h
 rw [List.drop_eq_getElem_cons h1, h2]
theorem RowV.rd {w : World} {F : List Nat} {a : Option Addr} {n c size : Nat} {xs : List Value} (h : RowV w F (.slice a n c) n size xs) : Rd w.heap.size w a n c size xs := by
 obtain ⟨h1, a', c', e, h2, h3, _, h4⟩ := h
 cases e
 exact ⟨h1, h2, h3, fun i u hu => by
  obtain ⟨b, o, e, _, hl, hc⟩ := h4 i u hu
  exact ⟨b, o, e, hl, hc⟩⟩
theorem Rd.nil {B : Nat} {w w' : World} {a : Option Addr} {n cap size : Nat} {xs : List Value} (h : Rd B w a n cap size xs) (hf : Frm [] w w') : Rd B w' a n cap size xs := h.frm hf (by simp)

end Go.Proofs.YtikpcipkkhmcfaaGreat

/- Register machines: the plain model, how they lie in memory. -/
namespace Go.Proofs.YtikpcipkkhmcfaaGreat.Ind
open Go.RowKit

/-- An arc: kind, channel, register, source, the registers that must differ, target. -/
structure RA where
 kind : Int
 ch : Int
 reg : Int
 frm : Int
 not : List Int
 to : Int
structure RM where
 regs : Int
 data : Int
 plain : Int
 states : List (List RA)
def belowB (n limit : Int) : Bool := decide (0 ≤ n) && decide (n < limit)
def ascB : List Int → Bool
 | a :: b :: r => decide (a < b) && ascB (b :: r)
 | _ => true
def notB (regs : Int) (l : List Int) : Bool := l.all (fun r => belowB r regs) && ascB l
def restB (a : RA) (ch reg frm : Bool) : Bool := (ch || a.ch == 0) && (reg || a.reg == 0) && (frm || a.frm == 0)
/-- An arc is valid. -/
def arcB (m : RM) (a : RA) : Bool :=
 belowB a.to m.states.length &&
 (if a.kind = 1 ∨ a.kind = 2 then restB a false false false && a.not.isEmpty
 else if a.kind = 3 then belowB a.ch m.plain && restB a true false false && a.not.isEmpty
 else if a.kind = 4 then belowB a.ch m.data && (a.reg == -1 || belowB a.reg m.regs) && notB m.regs a.not && restB a true true false
 else if a.kind = 5 then belowB a.ch m.data && belowB a.reg m.regs && restB a true true false && a.not.isEmpty
 else if a.kind = 6 then belowB a.reg m.regs && restB a false true false && a.not.isEmpty
 else if a.kind = 7 then belowB a.reg m.regs && belowB a.frm m.regs && restB a false true true && a.not.isEmpty
 else false)
def validM (m : RM) : Bool := belowB m.regs 5 && belowB m.data 9 && belowB m.plain 9 && decide (1 ≤ m.states.length) && decide (m.states.length ≤ 64) && m.states.all fun r => decide (r.length ≤ 16) && r.all (arcB m)

def arcC (p : Value × RA) : List Value := [.int .i64 p.2.kind, .int .i64 p.2.ch, .int .i64 p.2.reg, .int .i64 p.2.frm, p.1, .int .i64 p.2.to]
def rowC (l : List (Value × RA)) : List Value := l.flatMap arcC
/-- A row of arcs that is only read. -/
def ArcsAt (w : World) (F : List Nat) (v : Value) (row : List RA) : Prop :=
 ∃ l : List (Value × RA), l.map (·.2) = row ∧ RowV w F v row.length 6 (rowC l) ∧ ∀ p ∈ l, RowV w F p.1 p.2.not.length 1 (ints p.2.not)
/-- The rows of all states. -/
def StatesAt (w : World) (F : List Nat) (v : Value) (st : List (List RA)) : Prop :=
 ∃ l : List (Value × List RA), l.map (·.2) = st ∧ RowV w F v st.length 1 (l.map (·.1)) ∧ ∀ p ∈ l, ArcsAt w F p.1 p.2
section
variable {w w' : World} {F F' fp : List Nat} {v : Value} {row : List RA} {st : List (List RA)}
theorem ArcsAt.step (h : ArcsAt w F v row) (hf : Frm fp w w') (hn : ∀ k ∈ fp, k ∈ F ∨ w.heap.size ≤ k) (hF : ∀ k ∈ F', k ∈ F ∨ w.heap.size ≤ k) : ArcsAt w' F' v row := by
 obtain ⟨l, h1, h2, h3⟩ := h
 exact ⟨l, h1, h2.step hf hn hF, fun p hp => (h3 p hp).step hf hn hF⟩
theorem ArcsAt.nil (h : ArcsAt w F v row) (hf : Frm [] w w') : ArcsAt w' F v row := h.step hf (by simp) (fun _ hk => .inl hk)
theorem StatesAt.step (h : StatesAt w F v st) (hf : Frm fp w w') (hn : ∀ k ∈ fp, k ∈ F ∨ w.heap.size ≤ k) (hF : ∀ k ∈ F', k ∈ F ∨ w.heap.size ≤ k) : StatesAt w' F' v st := by
 obtain ⟨l, h1, h2, h3⟩ := h
 exact ⟨l, h1, h2.step hf hn hF, fun p hp => (h3 p hp).step hf hn hF⟩
theorem StatesAt.nil (h : StatesAt w F v st) (hf : Frm [] w w') : StatesAt w' F v st := h.step hf (by simp) (fun _ hk => .inl hk)
/-- Row i of the states. -/
theorem StatesAt.at_ (h : StatesAt w F v st) {i : Nat} {r : List RA} (hr : st[i]? = some r) : ∃ b o c a n cc, v = .slice (some ⟨b, o, none⟩) st.length c ∧ st.length ≤ c ∧ c ≤ maxLen ∧ b ∉ F ∧ w.cell? ⟨b, o + i, none⟩ = some (.slice a n cc) ∧ n = r.length ∧ ArcsAt w F (.slice a n cc) r := by
 obtain ⟨l, h1, h2, h3⟩ := h
 have hr2 : (l.map (·.2))[i]? = some r := by rw [h1]; exact hr
 rw [List.getElem?_map] at hr2
 cases hl : l[i]? with
 | none => rw [hl] at hr2; cases hr2
 | some p =>
  rw [hl] at hr2
  simp only [Option.map_some, Option.some.injEq] at hr2
  subst hr2
  have ha := h3 p (List.mem_of_getElem? hl)
  obtain ⟨l2, e2, ⟨_, a, cc, e3, _⟩, _⟩ := ha
  obtain ⟨_, va, c, ev, hc1, hc2, _, hcell⟩ := h2
  obtain ⟨b, o, rfl, hb, _, hc⟩ := hcell i p.1 (by rw [List.getElem?_map, hl]; rfl)
  rw [e3] at hc
  have ha := h3 p (List.mem_of_getElem? hl)
  rw [e3] at ha
  exact ⟨b, o, c, a, _, cc, ev, hc1, hc2, hb, hc, rfl, ha⟩
end

end Go.Proofs.YtikpcipkkhmcfaaGreat.Ind

/- Plain: what is asked of the list of registers, said in two ways; arcs that may stand side by side. No program. -/
namespace Go.Proofs.YtikpcipkkhmcfaaGreat.Ind
open Go.RowKit

theorem ascB_cons {a : Int} : ∀ {l : List Int}, ascB (a :: l) = true → ∀ x ∈ l, a < x
 | [], _, x, hx => by cases hx
 | b :: r, h, x, hx => by
  rw [ascB, Bool.and_eq_true, decide_eq_true_eq] at h
  rcases List.mem_cons.1 hx with rfl | hx
  ·exact h.1
  ·have := ascB_cons h.2 x hx
   omega
theorem ascB_tail {a : Int} {l : List Int} (h : ascB (a :: l) = true) : ascB l = true := by
 cases l with
 | nil => rfl
 | cons b r => rw [ascB, Bool.and_eq_true] at h; exact h.2
theorem ascB_last : ∀ {l : List Int} {z : Int}, ascB l = true → l.getLast? = some z → ∀ x ∈ l, x ≤ z
 | [], z, _, h, x, hx => by cases hx
 | [a], z, _, h, x, hx => by
  simp at h hx
  omega
 | a :: b :: r, z, h, hz, x, hx => by
  rw [List.getLast?_cons_cons] at hz
  have ih := ascB_last (ascB_tail h) hz
  rcases List.mem_cons.1 hx with rfl | hx
  ·have := ascB_cons h b List.mem_cons_self
   have := ih b List.mem_cons_self
   omega
  ·exact ih x hx
end Go.Proofs.YtikpcipkkhmcfaaGreat.Ind

/- Plain: machines in norm, as the program and as the reference ask it. No program. -/
namespace Go.Proofs.YtikpcipkkhmcfaaGreat.Ind
open Go.RowKit

/-- Two arcs may stand side by side. -/
def PairP (a b : RA) : Prop := ¬(a.kind = b.kind ∧ a.ch = b.ch) ∧ (a.kind = 4 → b.kind = 5 → a.ch = b.ch → b.reg ∈ a.not) ∧ (a.kind = 5 → b.kind = 4 → a.ch = b.ch → a.reg ∈ b.not)
theorem PairP.symm {a b : RA} (h : PairP a b) : PairP b a :=
 ⟨fun ⟨h1, h2⟩ => h.1 ⟨h1.symm, h2.symm⟩, fun h1 h2 h3 => h.2.2 h2 h1 h3.symm, fun h1 h2 h3 => h.2.1 h2 h1 h3.symm⟩
end Go.Proofs.YtikpcipkkhmcfaaGreat.Ind

/- Plain: strictly ascending lists under a total order: insertion, striking of doubles, uniqueness. No program. -/
namespace Go.Proofs.YtikpcipkkhmcfaaGreat.Ind
open Go.RowKit

structure STO {α : Type} (lt : α → α → Bool) : Prop where
 irr : ∀ a, lt a a = false
 trans : ∀ a b c, lt a b = true → lt b c = true → lt a c = true
 tri : ∀ a b, lt a b = false → lt b a = false → a = b
def Asc {α : Type} (lt : α → α → Bool) (l : List α) : Prop := l.Pairwise fun a b => lt a b = true
section
variable {α : Type} {lt : α → α → Bool}
theorem asc_uniq (O : STO lt) : ∀ {l l' : List α}, Asc lt l → Asc lt l' → (∀ x, x ∈ l ↔ x ∈ l') → l = l'
 | [], [], _, _, _ => rfl
 | [], b :: s, _, _, h => by have := (h b).2 List.mem_cons_self; cases this
 | a :: r, [], _, _, h => by have := (h a).1 List.mem_cons_self; cases this
 | a :: r, b :: s, h1, h2, h => by
  unfold Asc at h1 h2
  rw [List.pairwise_cons] at h1 h2
  have hab : a = b := by
   rcases List.mem_cons.1 ((h a).1 List.mem_cons_self) with e | ha
   ·exact e
   ·rcases List.mem_cons.1 ((h b).2 List.mem_cons_self) with e | hb
    ·exact e.symm
    ·have e1 := h1.1 b hb
     have e2 := h2.1 a ha
     have := O.trans _ _ _ e1 e2
     rw [O.irr] at this
     cases this
  subst hab
  congr 1
  refine asc_uniq O h1.2 h2.2 (fun x => ?_)
  constructor
  ·intro hx
   rcases List.mem_cons.1 ((h x).1 (List.mem_cons_of_mem _ hx)) with e | hx2
   ·subst e; have := h1.1 x hx; rw [O.irr] at this; cases this
   ·exact hx2
  ·intro hx
   rcases List.mem_cons.1 ((h x).2 (List.mem_cons_of_mem _ hx)) with e | hx2
   ·subst e; have := h2.1 x hx; rw [O.irr] at this; cases this
   ·exact hx2
variable [DecidableEq α]
def insG (lt : α → α → Bool) : List α → α → List α
 | [], x => [x]
 | a :: r, x => if lt a x = true then a :: insG lt r x else if a = x then a :: r else x :: a :: r
theorem mem_insG {l : List α} {x y : α} : y ∈ insG lt l x ↔ y = x ∨ y ∈ l := by
 induction l with
 | nil => simp [insG]
 | cons a r ih =>
  rw [insG]
  split
  ·rw [List.mem_cons, ih, List.mem_cons]
   constructor
   ·rintro (h | h | h)
    ·exact .inr (.inl h)
    ·exact .inl h
    ·exact .inr (.inr h)
   ·rintro (h | h | h)
    ·exact .inr (.inl h)
    ·exact .inl h
    ·exact .inr (.inr h)
  ·split
   ·rename_i h
    subst h
    simp
   ·simp
theorem asc_insG (O : STO lt) {l : List α} {x : α} (h : Asc lt l) : Asc lt (insG lt l x) := by
 unfold Asc at *
 induction l with
 | nil => simp [insG]
 | cons a r ih =>
  rw [List.pairwise_cons] at h
  rw [insG]
  split
  ·rename_i ha
   rw [List.pairwise_cons]
   refine ⟨fun y hy => ?_, ih h.2⟩
   rcases mem_insG.1 hy with rfl | hy
   ·exact ha
   ·exact h.1 y hy
  ·rename_i ha
   split
   ·rw [List.pairwise_cons]; exact h
   ·rename_i hn
    have hxa : lt x a = true := by
     cases hx : lt x a with
     | true => rfl
     | false => exact absurd (O.tri a x (by simpa using ha) hx) hn
    rw [List.pairwise_cons, List.pairwise_cons]
    refine ⟨fun y hy => ?_, h⟩
    rcases List.mem_cons.1 hy with rfl | hy
    ·exact hxa
    ·exact O.trans _ _ _ hxa (h.1 y hy)
/-- All inserted. -/
def setG (lt : α → α → Bool) (l : List α) : List α := l.foldl (insG lt) []
theorem setG_snoc (l : List α) (x : α) : setG lt (l ++ [x]) = insG lt (setG lt l) x := by simp [setG]
theorem setG_gen (O : STO lt) : ∀ (l acc : List α), Asc lt acc → Asc lt (l.foldl (insG lt) acc) ∧ ∀ y, y ∈ l.foldl (insG lt) acc ↔ y ∈ acc ∨ y ∈ l
 | [], acc, h => ⟨h, by simp⟩
 | x :: r, acc, h => by
  obtain ⟨h1, h2⟩ := setG_gen O r (insG lt acc x) (asc_insG O h)
  refine ⟨h1, fun y => ?_⟩
  rw [List.foldl_cons, h2, mem_insG, List.mem_cons]
  constructor
  ·rintro ((h | h) | h)
   ·exact .inr (.inl h)
   ·exact .inl h
   ·exact .inr (.inr h)
  ·rintro (h | h | h)
   ·exact .inl (.inr h)
   ·exact .inl (.inl h)
   ·exact .inr h
theorem setG_asc (O : STO lt) (l : List α) : Asc lt (setG lt l) := (setG_gen O l [] List.Pairwise.nil).1
theorem mem_setG (O : STO lt) {l : List α} {y : α} : y ∈ setG lt l ↔ y ∈ l := by
 rw [setG, (setG_gen O l [] List.Pairwise.nil).2]; simp
omit [DecidableEq α] in
theorem asc_nodup (O : STO lt) {l : List α} (h : Asc lt l) : l.Nodup :=
 h.imp fun {a b} hab e => by subst e; rw [O.irr] at hab; cases hab
/-- Doubles that stand side by side are struck. -/
def compG : List α → List α
 | a :: b :: r => if a = b then compG (b :: r) else a :: compG (b :: r)
 | l => l
theorem mem_compG : ∀ {l : List α} {y : α}, y ∈ compG l ↔ y ∈ l
 | [], y => by simp [compG]
 | [a], y => by simp [compG]
 | a :: b :: r, y => by
  rw [compG]
  split
  ·rename_i h
   subst h
   rw [mem_compG]
   simp
  ·rw [List.mem_cons, mem_compG, List.mem_cons (b := a)]
theorem asc_compG (O : STO lt) : ∀ {l : List α}, l.Pairwise (fun a b => lt b a = false) → Asc lt (compG l)
 | [], _ => List.Pairwise.nil
 | [a], _ => by simp [compG, Asc]
 | a :: b :: r, h => by
  rw [List.pairwise_cons] at h
  have ih := asc_compG O h.2
  rw [compG]
  split
  ·exact ih
  ·rename_i hn
   unfold Asc at *
   rw [List.pairwise_cons]
   refine ⟨fun y hy => ?_, ih⟩
   have hab : lt a b = true := by
    cases hx : lt a b with
    | true => rfl
    | false => exact absurd (O.tri a b hx (h.1 b List.mem_cons_self)) hn
   rcases List.mem_cons.1 (mem_compG.1 hy) with rfl | hy
   ·exact hab
   ·have hby := (List.pairwise_cons.1 h.2).1 y hy
    cases hx : lt b y with
    | true => exact O.trans _ _ _ hab hx
    | false => rw [← O.tri b y hx hby]; exact hab
end

/-- Lists of numbers in the order of books. -/
def ltL : List Int → List Int → Bool
 | [], [] => false
 | [], _ :: _ => true
 | _ :: _, [] => false
 | a :: r, b :: s => decide (a < b) || (decide (a = b) && ltL r s)
theorem sto_int : STO (fun a b : Int => decide (a < b)) := ⟨by simp, by simp; omega, by simp; omega⟩
theorem sto_list : STO ltL := by
 refine ⟨fun a => ?_, fun a => ?_, fun a => ?_⟩
 ·induction a with
  | nil => rfl
  | cons x r ih => simp [ltL, ih]
 ·induction a with
  | nil => intro b c h1 h2; cases b <;> cases c <;> simp [ltL] at *
  | cons x r ih =>
   intro b c h1 h2
   cases b with
   | nil => simp [ltL] at h1
   | cons y s =>
    cases c with
    | nil => simp [ltL] at h2
    | cons z t =>
     simp only [ltL, Bool.or_eq_true, decide_eq_true_eq, Bool.and_eq_true] at *
     rcases h1 with h1 | ⟨h1, h3⟩
     ·rcases h2 with h2 | ⟨h2, h4⟩
      ·left; omega
      ·left; omega
     ·rcases h2 with h2 | ⟨h2, h4⟩
      ·left; omega
      ·right; exact ⟨by omega, ih s t h3 h4⟩
 ·induction a with
  | nil => intro b h1 h2; cases b <;> simp [ltL] at *
  | cons x r ih =>
   intro b h1 h2
   cases b with
   | nil => simp [ltL] at h2
   | cons y s =>
    simp only [ltL, Bool.or_eq_false_iff, decide_eq_false_iff_not, Bool.and_eq_false_iff] at h1 h2
    have hxy : x = y := by omega
    subst hxy
    rw [ih s (by rcases h1.2 with h | h; exact absurd rfl h; exact h) (by rcases h2.2 with h | h; exact absurd rfl h; exact h)]
/-- First by a number, then by the rest. -/
def ltN {β : Type} (lt : β → β → Bool) (a b : Int × β) : Bool := decide (a.1 < b.1) || (decide (a.1 = b.1) && lt a.2 b.2)
theorem sto_pair {β : Type} {lt : β → β → Bool} (O : STO lt) : STO (ltN lt) := by
 refine ⟨fun a => by simp [ltN, O.irr], fun a b c h1 h2 => ?_, fun a b h1 h2 => ?_⟩
 ·simp only [ltN, Bool.or_eq_true, decide_eq_true_eq, Bool.and_eq_true] at *
  rcases h1 with h1 | ⟨h1, h3⟩
  ·rcases h2 with h2 | ⟨h2, h4⟩
   ·left; omega
   ·left; omega
  ·rcases h2 with h2 | ⟨h2, h4⟩
   ·left; omega
   ·right; exact ⟨by omega, O.trans _ _ _ h3 h4⟩
 ·simp only [ltN, Bool.or_eq_false_iff, decide_eq_false_iff_not, Bool.and_eq_false_iff] at h1 h2
  have hxy : a.1 = b.1 := by omega
  refine Prod.ext hxy (O.tri _ _ ?_ ?_)
  ·rcases h1.2 with h | h
   ·exact absurd hxy h
   ·exact h
  ·rcases h2.2 with h | h
   ·exact absurd hxy.symm h
   ·exact h
/-- A state of an instance; an arc of an instance. -/
abbrev Pl := Int × List Int
abbrev Mv := Int × Pl
abbrev Ar := Int × Int
def ltP : Pl → Pl → Bool := ltN ltL
def ltM : Mv → Mv → Bool := ltN ltP
def ltAr : Ar → Ar → Bool := ltN fun a b : Int => decide (a < b)
theorem sto_P : STO ltP := sto_pair sto_list
theorem sto_M : STO ltM := sto_pair sto_P
end Go.Proofs.YtikpcipkkhmcfaaGreat.Ind

/- Plain: the minimal ones of a list of sets, as the program and as the reference find them. No program. -/
namespace Go.Proofs.YtikpcipkkhmcfaaGreat.Beh
open Go.Proofs.YtikpcipkkhmcfaaGreat.Ind

/-- Every element of a is one of b. -/
def subI (a b : List Int) : Bool := a.all fun x => decide (x ∈ b)
theorem subI_iff {a b : List Int} : subI a b = true ↔ ∀ x ∈ a, x ∈ b := by simp [subI]
theorem asc_of_ascB : ∀ {l : List Int}, Ind.ascB l = true → l.Pairwise (· < ·)
 | [], _ => List.Pairwise.nil
 | _ :: _, h => List.Pairwise.cons (Ind.ascB_cons h) (asc_of_ascB (Ind.ascB_tail h))
theorem nodup_of_ascB {l : List Int} (h : Ind.ascB l = true) : l.Nodup := (asc_of_ascB h).imp (fun h e => by omega)
theorem asc_eq {a b : List Int} (ha : Ind.ascB a = true) (hb : Ind.ascB b = true) (h : ∀ x, x ∈ a ↔ x ∈ b) : a = b :=
 asc_uniq sto_int ((asc_of_ascB ha).imp (fun h => by simpa using h)) ((asc_of_ascB hb).imp (fun h => by simpa using h)) h
theorem len_le_of_sub {a b : List Int} (ha : a.Nodup) (h : ∀ x ∈ a, x ∈ b) : a.length ≤ b.length := ha.length_le_of_subset h
theorem eq_of_sub_len {a b : List Int} (ha : Ind.ascB a = true) (hb : Ind.ascB b = true) (h : ∀ x ∈ a, x ∈ b) (hl : b.length ≤ a.length) : a = b := by
 refine asc_eq ha hb (fun x => ⟨h x, fun hx => ?_⟩)
 by_cases hm : x ∈ a
 ·exact hm
 ·have h1 : (x :: a).Nodup := List.nodup_cons.2 ⟨hm, nodup_of_ascB ha⟩
  have h2 : (x :: a).length ≤ b.length := len_le_of_sub h1 (fun y hy => by
   rcases List.mem_cons.1 hy with rfl | hy
   ·exact hx
   ·exact h y hy)
  simp at h2
  omega
/-- The minimal ones of the sets. -/
def minS (l : List (List Int)) : List (List Int) := (setG ltL l).filter fun x => !((setG ltL l).any fun y => decide (y ≠ x) && subI y x)
theorem mem_minS {l : List (List Int)} {x : List Int} : x ∈ minS l ↔ x ∈ l ∧ ∀ y ∈ l, y ≠ x → subI y x = false := by
 simp only [minS, List.mem_filter, mem_setG sto_list, Bool.not_eq_true', List.any_eq_false, Bool.and_eq_true, decide_eq_true_eq, not_and, Bool.not_eq_true]
theorem asc_minS (l : List (List Int)) : Asc ltL (minS l) := (setG_asc sto_list l).filter _
theorem minS_congr {l l' : List (List Int)} (h : ∀ x, x ∈ l ↔ x ∈ l') : minS l = minS l' :=
 asc_uniq sto_list (asc_minS l) (asc_minS l') (fun x => by simp only [mem_minS, h])
/-- As the reference finds them: no shorter one is a subset. -/
def refMin (l : List (List Int)) : List (List Int) := setG ltL (l.filter fun x => !(l.any fun y => decide (y.length < x.length) && subI y x))
theorem refMin_eq {l : List (List Int)} (h : ∀ x ∈ l, Ind.ascB x = true) : refMin l = minS l := by
 refine asc_uniq sto_list (setG_asc sto_list _) (asc_minS l) (fun x => ?_)
 rw [mem_minS, refMin, mem_setG sto_list, List.mem_filter]
 simp only [Bool.not_eq_true', List.any_eq_false, Bool.and_eq_true, decide_eq_true_eq, not_and, Bool.not_eq_true]
 constructor
 ·rintro ⟨hx, h1⟩
  refine ⟨hx, fun y hy hne => ?_⟩
  cases hs : subI y x with
  | false => rfl
  | true =>
   by_cases hl : y.length < x.length
   ·have := h1 y hy hl
    rw [hs] at this
    exact this
   ·exact absurd (eq_of_sub_len (h y hy) (h x hx) (subI_iff.1 hs) (by omega)) hne
 ·rintro ⟨hx, h1⟩
  exact ⟨hx, fun y hy hl => h1 y hy (fun e => by rw [e] at hl; omega)⟩
/-- What both answer: nothing where a list is no set. -/
def minL (l : List (List Int)) : List (List Int) := if l.all Ind.ascB = true then minS l else []
end Go.Proofs.YtikpcipkkhmcfaaGreat.Beh
