/- Texts A5, A6. -/
import Derived.Test.YtikpcipkkhmcfaaGreatQ04
import Derived.Laws.AppendOwnNone
/- Merged text: GH, GI of the notes. -/
/- Contract of flow.Initials. -/
namespace Go.Proofs.YtikpcipkkhmcfaaGreat
open Go.RowKit

def initP : List Int → List Arc → List Int
 | acc, [] => acc
 | acc, a :: r => if acc.getLast? = some a.1 then initP acc r else initP (acc ++ [a.1]) r
def evs (row : List Arc) : List Int := initP [] row

theorem cells_new_at (w : World) (x : Int) (t : TypeId) (k : Nat) (hk : w.heap.size = k) : ∀ (j : Nat) (u : Value), (ints [x])[j]? = some u → (w.alloc (.cells #[.int .i64 x] t)).cell? ((⟨k, 0, none⟩ : Addr).add j) = some u := by
 subst hk
 exact cells_new_int w x t
theorem owns_drewN {B : Nat} {w : World} {e size n : Nat} {v : Value} {xs : List Value} (h : w.ownsRow B e size v n xs) (k : Nat) : (w.drewN k).ownsRow B e size v n xs := h

set_option maxRecDepth 100000 in
set_option maxHeartbeats 1000000 in
theorem finitials_any (B : Nat) (a : Option Addr) (cap : Nat) (l : Lts) (s : Nat) (row : List Arc) (w : World) (h : LAt B w a cap l) (hs : l[s]? = some row) (hfew : row.length ≤ 1000000) :
  Calls Tryz.prog 115 #[.agg #[.slice a l.length cap], .int .i64 (s : Int)] w fun e w' => ∃ a' cp, e = .returned (.slice a' (evs row).length cp) ∧ OwnI w.heap.size w' a' cp (evs row) ∧ Frm [] w w' := by
 have f0 : Frm [] w (w.alloc (.cells #[.slice a l.length cap] 25)) := (Frm.refl [] w).alloc _
 have hbox := box1 w (.slice a l.length cap) 25
 have hl := h.lt
 have h' := h.nil f0 rfl
 have hsl : s < l.length := (List.getElem?_eq_some_iff.1 hs).1
 obtain ⟨b, o, ra, rc, rfl, hb, hc, hrr⟩ := h'.cell s row hs
 have i1 : (s : Int) < (l.length : Int) := by omega
 have i2 : (0 : Int) ≤ (s : Int) := by omega
 have hrl : (row.length : Int) ≤ 1000000 := by omega
 have H := Lib.hid hrr
 have HB := Lib.hid hbox
 have HC := Lib.hid hc
 clear h h' hs hrr hbox
 go_enter Tryz.func115, Tryz.ntmps115
 go_wp2_with fail
 clear hc
 go_loopg [5, 14] row.length (fun q v i wr => ∃ (k n : Nat) (acc : List Int) (a' : Option Addr) (cp : Nat), q = row.length - k ∧ k ≤ row.length ∧ i = .int .i64 k ∧ v = .slice a' n cp ∧ acc.length = n ∧ n ≤ k ∧ initP acc (row.drop k) = evs row ∧ wr.ownsRow (w.heap.size + 1) 3 1 (.slice a' n cp) n (ints acc) ∧ Frm [] (w.alloc (.cells #[.slice (some ⟨b, o, none⟩) l.length cap] 25)) wr)
 case atStart => exact ⟨0, 0, [], none, 0, rfl, Nat.zero_le _, rfl, rfl, rfl, Nat.le_refl _, rfl, OwnI.nil _ _, Frm.refl _ _⟩
 case round =>
  obtain ⟨k, n, acc, a', cp, rfl, hk, rfl, rfl, hn, hnk, hd, hown, hF⟩ := hrel
  have HF := Lib.hid hF
  have i4 : (0 : Int) ≤ (k : Int) := by omega
  have i6 : (n : Int) ≤ 1000000 := by omega
  have hbc := (HB.out.frm hF (by simp)).cell (i := 0) rfl
  have hcc := hF.cell HC.out (by simp)
  have n1 : w.heap.size < wr.heap.size := World.block_lt_of_cell? _ _ hbc
  have n2 : b < wr.heap.size := World.block_lt_of_cell? _ _ hcc
  have HOWN := Lib.hid hown
  have HN := Lib.hid hn
  clear hF hown hn
  by_cases hlt : k < row.length
  ·have i5 : (k : Int) < (row.length : Int) := by omega
   obtain ⟨⟨e, t⟩, hy⟩ : ∃ y, row[k]? = some y := ⟨_, List.getElem?_eq_getElem hlt⟩
   rw [drop_cons hy, initP] at hd
   obtain ⟨g1, o1, rfl, _, c1, c2⟩ := H.out.2.2.2 k e t hy
   have d1 := HF.out.cell c1 (by simp)
   have d2 := HF.out.cell c2 (by simp)
   have hnew : RowAt (wr.alloc (.cells #[.int .i64 e, .int .i64 t] 66)) wr.heap.size 66 [.int .i64 e, .int .i64 t] := RowAt.made _ _ _ _ rfl
   have HNEW := Lib.hid hnew
   clear c1 c2 hy hnew
   by_cases hsame : acc.getLast? = some e
   ·rw [if_pos hsame] at hd
    have HD := Lib.hid hd
    obtain ⟨m, rfl⟩ : ∃ m, n = m + 1 := ⟨n - 1, by
     have := HN.out
     cases n with
     | zero => rw [List.eq_nil_of_length_eq_zero this] at hsame; simp at hsame
     | succ m => omega⟩
    obtain ⟨g, cp', hsl, _, _, hrow⟩ := owns_some (ownsB_mono HOWN.out (Nat.zero_le _)) (by omega)
    obtain ⟨rfl, rfl⟩ : a' = some ⟨g, 0, none⟩ ∧ cp = cp' := by simpa using hsl
    have hlast : (ints acc)[m]? = some (.int .i64 e) := by
     rw [List.getLast?_eq_getElem?, HN.out, Nat.add_sub_cancel] at hsame
     simp [ints, hsame]
    have hcell := (hrow.alloc (.cells #[.int .i64 e, .int .i64 t] 66)).cell hlast
    have hcell2 := hrow.cell hlast
    have n3 : g < wr.heap.size := hrow.lt
    have hw1 : IntKind.i64.wrap (m : Int) = (m : Int) := IntWalk.i64_in _ (by omega)
    have i7 : (0 : Int) ≤ (m : Int) := by omega
    have i8 : (m : Int) < (m : Int) + 1 := by omega
    have i9 : ((m : Int) + 1 == 0) = false := by simp; omega
    have hee : (e != e) = false := by simp
    clear hd hsame hsl hrow hlast
    go_wp2_with fail
    go_quiet (fail)
    go_wp2_with fail
    go_roundg (row.length - (k + 1))
    case rel => exact ⟨k + 1, m + 1, acc, _, _, rfl, by omega, by go_num, rfl, HN.out, by omega, HD.out, owns_drewN (HOWN.out.alloc _) _, (HF.out.alloc _).drewN _⟩
    case measure => omega
   ·rw [if_neg hsame] at hd
    have HD := Lib.hid hd
    have hlen9 : (acc ++ [e]).length = n + 1 := by rw [List.length_append, HN.out]; rfl
    have HLEN := Lib.hid hlen9
    have hbs : w.heap.size + 1 ≤ wr.heap.size := by omega
    clear hlen9
    cases n with
    | zero =>
     clear hd hsame
     go_wp2_with fail
     go_quiet (fail)
     go_wp2_with (first | (at_builtin; refine wpl_app_int rfl (.tmp 32) (.tmp 35) rfl (w.heap.size + 1) 0 1 (.slice _ 0 _) acc rfl ((owns_drewN (HOWN.out.alloc _) _).alloc _) HN.out ⟨wr.heap.size + 1, 0, none⟩ 1 1 [e] rfl rfl (cells_new_at _ e _ _ (by simp)) rfl (by omega) (by simp; omega) ?_) | (at_builtin; fail))
     intro a6 cp6 w6 hown6 hf6 _
     have G6 := hf6 (w.alloc (.cells #[.slice (some ⟨b, o, none⟩) l.length cap] 25)) (by simp) (((HF.out.alloc _).drewN _).alloc _)
     clear hf6
     go_wp2_with fail
     go_roundg (row.length - (k + 1))
     case rel => exact ⟨k + 1, 1, acc ++ [e], _, _, rfl, by omega, by go_num, rfl, HLEN.out, by omega, HD.out, hown6, G6⟩
     case measure => omega
    | succ m =>
     obtain ⟨g, cp', hsl, _, _, hrow⟩ := owns_some (ownsB_mono HOWN.out (Nat.zero_le _)) (by omega)
     obtain ⟨rfl, rfl⟩ : a' = some ⟨g, 0, none⟩ ∧ cp = cp' := by simpa using hsl
     obtain ⟨y, hy⟩ : ∃ y, acc[m]? = some y := ⟨_, List.getElem?_eq_getElem (by rw [HN.out]; omega)⟩
     have hye : (y != e) = true := by
      rw [List.getLast?_eq_getElem?, HN.out, Nat.add_sub_cancel, hy] at hsame
      simpa using hsame
     have hlast : (ints acc)[m]? = some (.int .i64 y) := by simp [ints, hy]
     have hcell := (hrow.alloc (.cells #[.int .i64 e, .int .i64 t] 66)).cell hlast
     have hcell2 := hrow.cell hlast
     have n3 : g < wr.heap.size := hrow.lt
     have hw1 : IntKind.i64.wrap (m : Int) = (m : Int) := IntWalk.i64_in _ (by omega)
     have i7 : (0 : Int) ≤ (m : Int) := by omega
     have i8 : (m : Int) < (m : Int) + 1 := by omega
     have i9 : ((m : Int) + 1 == 0) = false := by simp; omega
     clear hd hsame hsl hrow hlast hy
     go_wp2_with fail
     go_quiet (fail)
     go_wp2_with (first | (at_builtin; refine wpl_app_int rfl (.tmp 32) (.tmp 35) rfl (w.heap.size + 1) (m + 1) (m + 2) (.slice _ (m + 1) _) acc rfl ((owns_drewN (HOWN.out.alloc _) _).alloc _) HN.out ⟨wr.heap.size + 1, 0, none⟩ 1 1 [e] rfl rfl (cells_new_at _ e _ _ (by simp)) rfl (by omega) (by simp; omega) ?_) | (at_builtin; fail))
     intro a6 cp6 w6 hown6 hf6 _
     have G6 := hf6 (w.alloc (.cells #[.slice (some ⟨b, o, none⟩) l.length cap] 25)) (by simp) (((HF.out.alloc _).drewN _).alloc _)
     clear hf6
     go_wp2_with fail
     go_roundg (row.length - (k + 1))
     case rel => exact ⟨k + 1, (m + 2), acc ++ [e], _, _, rfl, by omega, by go_num, rfl, HLEN.out, by omega, HD.out, hown6, G6⟩
     case measure => omega
  ·have i5 : ¬ (k : Int) < (row.length : Int) := by omega
   have HR : Hid (acc = evs row) := Lib.hid (by rw [← hd, List.drop_eq_nil_of_le (by omega)]; rfl)
   clear hd
   go_wp2_with fail
   go_ret
   rw [← HR.out, HN.out]
   exact ⟨a', cp, rfl, by rw [OwnI, HN.out]; exact ownsB_mono HOWN.out (by omega), f0.trans HF.out (by simp)⟩

end Go.Proofs.YtikpcipkkhmcfaaGreat

/- Contracts of flow.Acceptance, graph.Initials, graph.Stable, graph.Acceptance. -/
namespace Go.Proofs.YtikpcipkkhmcfaaGreat
open Go.RowKit

/-! ### what a valid system is -/
theorem looseGo_row (n : Nat) : ∀ (c : Nat) (l : Lts), looseGo n c l = true → ∀ row ∈ l, row.length ≤ 262144 ∧ row.all (arcOk n) = true
 | _, [], _, row, hr => by simp at hr
 | c, x :: r, h, row, hr => by
  simp only [looseGo, Bool.and_eq_true, decide_eq_true_eq] at h
  rcases List.mem_cons.1 hr with rfl | hr
  ·exact ⟨by omega, h.2.1⟩
  ·exact looseGo_row n _ r h.2.2 row hr
structure VRow (n : Nat) (row : List Arc) : Prop where
 few : row.length ≤ 262144
 asc : ascB row = true
 ok : ∀ (e t : Int), (e, t) ∈ row → 0 ≤ e ∧ e ≤ 1025 ∧ 0 ≤ t ∧ t < (n : Int)
structure VLts (l : Lts) : Prop where
 pos : 1 ≤ l.length
 few : l.length ≤ 16384
 row : ∀ row ∈ l, VRow l.length row
theorem vlts_of {l : Lts} (h : validB l = true) : VLts l := by
 simp only [validB, looseB, Bool.and_eq_true, decide_eq_true_eq] at h
 obtain ⟨⟨⟨h1, h2⟩, h3⟩, h4⟩ := h
 refine ⟨h1, h2, fun row hr => ?_⟩
 obtain ⟨h5, h6⟩ := looseGo_row _ _ _ h3 row hr
 refine ⟨h5, List.all_eq_true.1 h4 row hr, fun e t he => ?_⟩
 exact arcOk_true (List.all_eq_true.1 h6 _ he)
theorem inB_row {l : Lts} {s : Int} (h : inB l.length s = true) : ∃ (n : Nat) (row : List Arc), s = (n : Int) ∧ l[n]? = some row ∧ l.getD s.toNat [] = row := by
 obtain ⟨h1, h2⟩ := (inB_iff _ _).1 h
 refine ⟨s.toNat, l[s.toNat]'(by omega), by omega, List.getElem?_eq_getElem (by omega), ?_⟩
 rw [List.getD_eq_getElem?_getD, List.getElem?_eq_getElem (by omega)]
 rfl

theorem owni_made (w : World) (xs : List Int) (hn : xs.length ≤ maxLen) : OwnI w.heap.size (w.alloc (.cells (ints xs).toArray 3)) (some ⟨w.heap.size, 0, none⟩) xs.length xs :=
 ⟨by simp [ints], .inr ⟨w.heap.size, xs.length, (ints xs).toArray, rfl, Nat.le_refl _, heap_alloc_new w _, Nat.le_refl _, hn, by simp [ints], by simp only [ints, Nat.mul_one]; exact List.take_of_length_le (by simp)⟩⟩

def accF (row : List Arc) : List Int × Bool := if anyA isTick row = true then ([1], true) else if stableR row = true then (evs row, true) else ([], false)

set_option maxRecDepth 100000 in
set_option maxHeartbeats 1000000 in
theorem facc_any (B : Nat) (a : Option Addr) (cap : Nat) (l : Lts) (s : Nat) (row : List Arc) (w : World) (h : LAt B w a cap l) (hs : l[s]? = some row) (hfew : row.length ≤ 1000000) :
  Calls Tryz.prog 91 #[.agg #[.slice a l.length cap], .int .i64 (s : Int)] w fun e w' => ∃ a' cp, e = .returned (.tuple #[.slice a' (accF row).1.length cp, .bool (accF row).2]) ∧ OwnI w.heap.size w' a' cp (accF row).1 ∧ Frm [] w w' := by
 have f0 : Frm [] w (w.alloc (.cells #[.slice a l.length cap] 25)) := (Frm.refl [] w).alloc _
 have hbox := box1 w (.slice a l.length cap) 25
 have HB := Lib.hid hbox
 have H0 := Lib.hid (h.nil f0 rfl)
 have HS := Lib.hid hs
 have htk := ticks_any B a cap l s row _ (h.nil f0 rfl) hs
 clear h hs hbox
 go_enter Tryz.func91, Tryz.ntmps91
 go_wp2_with fail
 refine htk.mono ?_
 rintro e1 w1 ⟨rfl, hf1⟩
 clear htk
 have F1 := f0.trans hf1 (by simp)
 have hb1 := (HB.out.frm hf1 (by simp)).cell (i := 0) rfl
 cases ht : anyA isTick row with
 | true =>
  have HR : Hid (accF row = ([1], true)) := Lib.hid (by rw [accF, ht]; rfl)
  clear ht
  go_wp2_with fail
  go_ret2
  rw [HR.out]
  refine ⟨some ⟨w1.heap.size, 0, none⟩, 1, rfl, ?_, F1.alloc _⟩
  exact ownsB_mono (owni_made w1 [1] (by decide)) (F1.size)
 | false =>
  have hst := fstable_any B a cap l s row w1 (H0.out.frm hf1 (by simp)) HS.out
  go_wp2_with fail
  refine hst.mono ?_
  rintro e2 w2 ⟨rfl, hf2⟩
  clear hst hb1
  have F2 := F1.trans hf2 (by simp)
  have hb2 := (HB.out.frm (hf1.trans hf2 (by simp)) (by simp)).cell (i := 0) rfl
  cases hst : stableR row with
  | false =>
   have HR : Hid (accF row = ([], false)) := Lib.hid (by rw [accF, ht, hst]; rfl)
   clear ht hst
   go_wp2_with fail
   go_ret2
   rw [HR.out]
   exact ⟨none, 0, rfl, OwnI.nil _ _, F2⟩
  | true =>
   have HR : Hid (accF row = (evs row, true)) := Lib.hid (by rw [accF, ht, hst]; rfl)
   have hfi := finitials_any B a cap l s row w2 ((H0.out.frm hf1 (by simp)).frm hf2 (by simp)) HS.out hfew
   clear ht hst
   go_wp2_with fail
   refine hfi.mono ?_
   rintro e3 w3 ⟨a3, cp3, rfl, ho3, hf3⟩
   clear hfi
   go_wp2_with fail
   go_ret2
   rw [HR.out]
   exact ⟨a3, cp3, rfl, ownsB_mono ho3 F2.size, F2.trans hf3 (by simp)⟩

def stableG (l : Lts) (s : Int) : Bool := validB l && (inB l.length s && stableR (l.getD s.toNat []))
def accG (l : Lts) (s : Int) : List Int × Bool := if validB l = true ∧ inB l.length s = true then accF (l.getD s.toNat []) else ([], false)

end Go.Proofs.YtikpcipkkhmcfaaGreat

/- Merged text: GJ, GK, GL, GM of the notes. -/
/- Contract of Add of the reference. -/
namespace Go.Proofs.YtikpcipkkhmcfaaGreat
open Go.RowKit

def addAt (xs : List Int) (x : Int) : Nat := (xs.takeWhile fun y => decide (y < x)).length
def addI (xs : List Int) (x : Int) : List Int := if xs[addAt xs x]? = some x then xs else xs.take (addAt xs x) ++ x :: xs.drop (addAt xs x)

theorem addAt_le (xs : List Int) (x : Int) : addAt xs x ≤ xs.length := by
 unfold addAt
 exact (List.takeWhile_prefix (l := xs) (fun y => decide (y < x))).length_le
theorem addI_len (xs : List Int) (x : Int) : (addI xs x).length ≤ xs.length + 1 := by
 unfold addI
 split
 ·omega
 ·have := addAt_le xs x
  simp; omega
theorem addAt_go {xs : List Int} {x : Int} {i : Nat} (h : i ≤ addAt xs x) {y : Int} (hy : xs[i]? = some y) : (y < x → i + 1 ≤ addAt xs x) ∧ (¬ y < x → addAt xs x = i) := by
 induction xs generalizing i with
 | nil => simp at hy
 | cons a r ih =>
  cases i with
  | zero =>
   simp at hy
   subst hy
   unfold addAt
   constructor
   ·intro hl; simp [hl]
   ·intro hl; simp [hl]
  | succ i =>
   simp at hy
   unfold addAt at h
   by_cases ha : a < x
   ·simp only [List.takeWhile_cons, ha, decide_true, if_true, List.length_cons] at h
    have := ih (i := i) (by unfold addAt; omega) hy
    unfold addAt at this ⊢
    simp only [List.takeWhile_cons, ha, decide_true, if_true, List.length_cons]
    constructor
    ·intro hl; have := this.1 hl; omega
    ·intro hl; have := this.2 hl; omega
   ·simp [ha] at h
theorem addI_ne (xs : List Int) (x : Int) : addI xs x ≠ [] := by
 unfold addI
 split
 ·rintro rfl
  simp at *
 ·simp

theorem takei_src {w w' : World} {g : Nat} {xs : List Int} {fp : List Nat} (h : RowAt w g 3 (ints xs)) (hf : Frm fp w w') (hn : g ∉ fp) (k : Nat) : ∀ (j : Nat) (u : Value), (ints (xs.take k))[j]? = some u → w'.cell? ((⟨g, 0, none⟩ : Addr).add j) = some u := by
 intro j u hu
 rw [Addr.add_lit, Nat.zero_add]
 refine (h.frm hf hn).cell ?_
 rw [ints, List.map_take, List.getElem?_take] at hu
 split at hu
 ·exact hu
 ·cases hu
theorem dropi_src {w w' : World} {g : Nat} {xs : List Int} {fp : List Nat} (h : RowAt w g 3 (ints xs)) (hf : Frm fp w w') (hn : g ∉ fp) (k : Nat) : ∀ (j : Nat) (u : Value), (ints (xs.drop k))[j]? = some u → w'.cell? ((⟨g, k, none⟩ : Addr).add j) = some u := by
 intro j u hu
 rw [Addr.add_lit]
 refine (h.frm hf hn).cell ?_
 rw [ints, List.map_drop, List.getElem?_drop] at hu
 exact hu
theorem owni_empty (w : World) (B k : Nat) (hk : w.heap.size = k) (hB : B ≤ k) : (w.alloc (.cells #[] 3)).ownsRow B 3 1 (.slice (some ⟨k, 0, none⟩) 0 0) 0 (ints []) := by
 subst hk
 exact World.ownsRow_made w #[] 0 hB (by decide) rfl
theorem OwnI.row {B : Nat} {w : World} {g cap : Nat} {xs : List Int} (h : OwnI B w (some ⟨g, 0, none⟩) cap xs) : RowAt w g 3 (ints xs) := by
 rcases h.2 with ⟨h0, _⟩ | ⟨g', cp', cur, h0, hb, hg, h1, h2, h3, h4⟩
 ·cases h0
 ·obtain ⟨rfl, rfl⟩ : g = g' ∧ cap = cp' := by simpa using h0
  exact ⟨cur, hg, by simpa [ints] using h4⟩

/-- append of nil to a row of integers that the call has made. -/
theorem wpl_appi_nil {w : World} {ops : Array Oper} {rest : List Oper} {o : Oper} {a : Act} {Q : Exit → Act → World → Prop} (hgd : o.guard = none) (s x : Operand)
  (ho : o.op = .call { callee := .builtin .append, args := #[s, x], argTypes := #[22, 22] })
  (B n : Nat) (v : Value) (xs : List Int) (hs : a.eval s = v) (hown : w.ownsRow B 3 1 v n (ints xs)) (hx : a.eval x = .slice none 0 0)
  (h : ∀ a' cp w', w'.ownsRow B 3 1 (.slice a' n cp) n (ints xs) → (∀ w0 : World, w0.heap.size ≤ B → Frm [] w0 w → Frm [] w0 w') → wpList Tryz.prog ops Q rest (a.put o.dst (.slice a' n cp)) w') : wpList Tryz.prog ops Q (o :: rest) a w := by
 obtain ⟨i0, hi, hz0, hz1, hz2⟩ := info_parts infoInt
 obtain ⟨a', cp, rfl, _⟩ := owns_shape (ownsB_mono hown (Nat.zero_le B))
 exact wpList_append_own_none hgd s x 22 ho B 3 i0 1 Tryz.underlying22 hi _ n (ints xs) hs hown hx (h a' cp w hown (fun _ _ hF => hF))

set_option maxRecDepth 100000 in
set_option maxHeartbeats 2000000 in
theorem add_some (B g cap : Nat) (xs : List Int) (x : Int) (w : World) (hB0 : B ≤ w.heap.size) (h : OwnI B w (some ⟨g, 0, none⟩) cap xs) (hl : xs.length ≤ 1000000) :
  Calls Tryz.prog 73 #[.slice (some ⟨g, 0, none⟩) xs.length cap, .int .i64 x] w fun e w' => ∃ a cp, e = .returned (.slice a (addI xs x).length cp) ∧ OwnI B w' a cp (addI xs x) ∧ Frm [] w w' := by
 have hrd := rd_of_owns h (Nat.le_refl _)
 have hcap := hrd.le
 have hmax := hrd.max
 have hlen := hrd.lt
 have HROW := Lib.hid h.row
 have HO := Lib.hid h
 clear h hrd
 go_enter Tryz.func73, Tryz.ntmps73
 go_wp2_with fail
 go_loopg [5] xs.length (fun q i wr => ∃ (k : Nat), q = xs.length - k ∧ k ≤ addAt xs x ∧ i = .int .i64 k ∧ wr = w)
 case atStart => exact ⟨0, rfl, Nat.zero_le _, rfl, rfl⟩
 case round =>
  obtain ⟨k, rfl, hk, rfl, rfl⟩ := hrel
  have hkl : k ≤ xs.length := Nat.le_trans hk (addAt_le _ _)
  have i2 : (0 : Int) ≤ (k : Int) := by omega
  by_cases hlt : k < xs.length
  ·obtain ⟨y, hy⟩ : ∃ z, xs[k]? = some z := ⟨_, List.getElem?_eq_getElem hlt⟩
   have d1 := HROW.out.cell (i := k) (v := .int .i64 y) (by simp [ints, hy])
   have hgo := addAt_go hk hy
   have HY := Lib.hid hy
   have i1 : (k : Int) < (xs.length : Int) := by omega
   have hb1 : decide ((k : Int) < (xs.length : Int)) = true := by simpa using hlt
   clear hy
   by_cases hlt2 : y < x
   ·have hk2 := hgo.1 hlt2
    clear hgo
    go_wp2_with fail
    go_roundg (xs.length - (k + 1))
    case rel => exact ⟨k + 1, rfl, hk2, by go_num, rfl⟩
    case measure => omega
   ·have hk2 := hgo.2 hlt2
    have hle : x ≤ y := by omega
    have HK2 := Lib.hid hk2
    clear hgo hk2
    by_cases heq : y = x
    ·subst heq
     have HINS : Hid (addI xs y = xs) := by
      show addI xs y = xs
      unfold addI
      rw [HK2.out, if_pos HY.out]
     go_wp2_with fail
     go_ret
     rw [HINS.out]
     exact ⟨_, cap, rfl, HO.out, Frm.refl _ _⟩
    ·have HINS : Hid (addI xs x = xs.take k ++ x :: xs.drop k) := by
      show addI xs x = _
      unfold addI
      rw [HK2.out, if_neg]
      rw [HY.out]
      intro h9
      simp only [Option.some.injEq] at h9
      exact heq h9
     have hne : (y == x) = false := by simpa using heq
     have hkc : ¬ k = cap := by omega
     have hkt : (xs.take k).length = k := by rw [List.length_take]; omega
     have hkt2 : (xs.take k ++ [x]).length = k + 1 := by rw [List.length_append, hkt]; rfl
     have HKT := Lib.hid hkt
     have HKT2 := Lib.hid hkt2
     clear hkt hkt2 heq
     go_wp2_with (first | (at_builtin; refine wpl_app_int rfl (.tmp 34) (.tmp 37) rfl wr.heap.size 0 k _ [] rfl (owni_empty _ _ wr.heap.size rfl (Nat.le_refl _)) rfl ⟨g, 0, none⟩ k cap (xs.take k) rfl HKT.out (takei_src HROW.out ((Frm.refl [] _).alloc _) (by simp) k) (Nat.zero_add k) (by omega) (by simp) ?_) | (at_builtin; fail))
     intro a6 cp6 w6 hown6 hf6 _
     have G6 := hf6 wr (by simp) ((Frm.refl [] _).alloc _)
     clear hf6
     go_wp2_with (first | (at_builtin; refine wpl_app_int rfl (.tmp 39) (.tmp 41) rfl wr.heap.size k (k + 1) (.slice a6 k cp6) (xs.take k) rfl (hown6.alloc _) HKT.out ⟨w6.heap.size, 0, none⟩ 1 1 [x] rfl rfl (cells_new_int w6 x _) rfl (by omega) (by have := G6.size; simp; omega) ?_) | (at_builtin; fail))
     intro a7 cp7 w7 hown7 hf7 _
     have G7 := hf7 wr (by simp) (G6.alloc _)
     clear hf7 hown6
     go_wp2_with (first | (at_builtin; refine wpl_app_int rfl (.tmp 43) (.tmp 46) rfl wr.heap.size (k + 1) (xs.length + 1) (.slice a7 (k + 1) cp7) (xs.take k ++ [x]) rfl hown7 HKT2.out ⟨g, k, none⟩ (xs.length - k) (cap - k) (xs.drop k) rfl (by rw [List.length_drop]) (dropi_src HROW.out G7 (by simp) k) (by omega) (by omega) (by have := G7.size; omega) ?_) | (at_builtin; fail))
     intro a8 cp8 w8 hown8 hf8 _
     have F8 := hf8 wr (by simp) G7
     clear hf8 hown7
     go_wp2_with fail
     go_ret
     rw [HINS.out]
     have hlen9 : (xs.take k ++ x :: xs.drop k).length = xs.length + 1 := by simp; omega
     exact ⟨a8, cp8, by rw [hlen9]; rfl, by rw [OwnI, hlen9]; first | exact ownsB_mono hown8 hB0 | simpa using ownsB_mono hown8 hB0, F8⟩
  ·obtain rfl : k = xs.length := by omega
   have hia : addAt xs x = xs.length := Nat.le_antisymm (addAt_le _ _) hk
   have HINS : Hid (addI xs x = xs ++ [x]) := by
    show addI xs x = _
    unfold addI
    rw [hia, if_neg (by simp)]
    simp
   have hb1 : decide ((xs.length : Int) < (xs.length : Int)) = false := by simp
   have hl9 : (xs ++ [x]).length = xs.length + 1 := by simp
   have HL9 := Lib.hid hl9
   clear hia hk hl9
   by_cases hkc : xs.length = cap
   ·have HKC := Lib.hid hkc
    clear hkc
    have hc0 : cap = xs.length := HKC.out.symm
    subst hc0
    go_wp2_with (first | (at_builtin; refine wpl_app_int rfl (.tmp 34) (.tmp 37) rfl wr.heap.size 0 xs.length _ [] rfl (owni_empty _ _ wr.heap.size rfl (Nat.le_refl _)) rfl ⟨g, 0, none⟩ xs.length xs.length xs rfl rfl (fun j u hu => takei_src HROW.out ((Frm.refl [] _).alloc _) (by simp) xs.length j u (by rw [List.take_length]; exact hu)) (Nat.zero_add _) (by omega) (by simp) ?_) | (at_builtin; fail))
    intro a6 cp6 w6 hown6 hf6 _
    have G6 := hf6 wr (by simp) ((Frm.refl [] _).alloc _)
    clear hf6
    go_wp2_with (first | (at_builtin; refine wpl_app_int rfl (.tmp 39) (.tmp 41) rfl wr.heap.size xs.length (xs.length + 1) (.slice a6 xs.length cp6) xs rfl (hown6.alloc _) rfl ⟨w6.heap.size, 0, none⟩ 1 1 [x] rfl rfl (cells_new_int w6 x _) rfl (by omega) (by have := G6.size; simp; omega) ?_) | (at_builtin; fail))
    intro a7 cp7 w7 hown7 hf7 _
    have G7 := hf7 wr (by simp) (G6.alloc _)
    clear hf7 hown6
    go_wp2_with (first | (at_builtin; refine wpl_app_int rfl (.tmp 43) (.tmp 46) rfl wr.heap.size (xs.length + 1) (xs.length + 1) (.slice a7 (xs.length + 1) cp7) (xs ++ [x]) rfl hown7 HL9.out ⟨g, 0, none⟩ 0 0 [] rfl rfl (by intro j u hu; simp [ints] at hu) rfl (by omega) (by have := G7.size; omega) ?_) | (at_builtin; fail))
    intro a8 cp8 w8 hown8 hf8 _
    have F8 := hf8 wr (by simp) G7
    clear hf8 hown7
    go_wp2_with fail
    go_ret
    rw [HINS.out]
    exact ⟨a8, cp8, by rw [HL9.out]; rfl, by rw [OwnI, HL9.out]; first | exact ownsB_mono hown8 hB0 | simpa using ownsB_mono hown8 hB0, F8⟩
   ·go_wp2_with (first | (at_builtin; refine wpl_app_int rfl (.tmp 34) (.tmp 37) rfl wr.heap.size 0 xs.length _ [] rfl (owni_empty _ _ wr.heap.size rfl (Nat.le_refl _)) rfl ⟨g, 0, none⟩ xs.length cap xs rfl rfl (fun j u hu => takei_src HROW.out ((Frm.refl [] _).alloc _) (by simp) xs.length j u (by rw [List.take_length]; exact hu)) (Nat.zero_add _) (by omega) (by simp) ?_) | (at_builtin; fail))
    intro a6 cp6 w6 hown6 hf6 _
    have G6 := hf6 wr (by simp) ((Frm.refl [] _).alloc _)
    clear hf6
    go_wp2_with (first | (at_builtin; refine wpl_app_int rfl (.tmp 39) (.tmp 41) rfl wr.heap.size xs.length (xs.length + 1) (.slice a6 xs.length cp6) xs rfl (hown6.alloc _) rfl ⟨w6.heap.size, 0, none⟩ 1 1 [x] rfl rfl (cells_new_int w6 x _) rfl (by omega) (by have := G6.size; simp; omega) ?_) | (at_builtin; fail))
    intro a7 cp7 w7 hown7 hf7 _
    have G7 := hf7 wr (by simp) (G6.alloc _)
    clear hf7 hown6
    go_wp2_with (first | (at_builtin; refine wpl_app_int rfl (.tmp 43) (.tmp 46) rfl wr.heap.size (xs.length + 1) (xs.length + 1) (.slice a7 (xs.length + 1) cp7) (xs ++ [x]) rfl hown7 HL9.out ⟨g, xs.length, none⟩ 0 (cap - xs.length) [] rfl rfl (by intro j u hu; simp [ints] at hu) rfl (by omega) (by have := G7.size; omega) ?_) | (at_builtin; fail))
    intro a8 cp8 w8 hown8 hf8 _
    have F8 := hf8 wr (by simp) G7
    clear hf8 hown7
    go_wp2_with fail
    go_ret
    rw [HINS.out]
    exact ⟨a8, cp8, by rw [HL9.out]; rfl, by rw [OwnI, HL9.out]; first | exact ownsB_mono hown8 hB0 | simpa using ownsB_mono hown8 hB0, F8⟩

set_option maxRecDepth 100000 in
set_option maxHeartbeats 2000000 in
theorem add_nil (B : Nat) (x : Int) (w : World) (hB0 : B ≤ w.heap.size) :
  Calls Tryz.prog 73 #[.slice none 0 0, .int .i64 x] w fun e w' => ∃ a cp, e = .returned (.slice a 1 cp) ∧ OwnI B w' a cp [x] ∧ Frm [] w w' := by
 go_enter Tryz.func73, Tryz.ntmps73
 go_wp2_with fail
 refine wp_loop_rounds 1 ?_
 rw [rounds_succ]
 go_wp2_with (first | (at_builtin; refine wpl_appi_nil rfl (.tmp 34) (.tmp 37) rfl w.heap.size 0 _ [] rfl (owni_empty _ _ w.heap.size rfl (Nat.le_refl _)) rfl ?_) | (at_builtin; fail))
 intro a6 cp6 w6 hown6 hf6
 have G6 := hf6 w (by simp) ((Frm.refl [] _).alloc _)
 clear hf6
 go_wp2_with (first | (at_builtin; refine wpl_app_int rfl (.tmp 39) (.tmp 41) rfl w.heap.size 0 1 (.slice a6 0 cp6) [] rfl (hown6.alloc _) rfl ⟨w6.heap.size, 0, none⟩ 1 1 [x] rfl rfl (cells_new_int w6 x _) rfl (by omega) (by have := G6.size; simp; omega) ?_) | (at_builtin; fail))
 intro a7 cp7 w7 hown7 hf7 _
 have G7 := hf7 w (by simp) (G6.alloc _)
 clear hf7 hown6
 go_wp2_with (first | (at_builtin; refine wpl_appi_nil rfl (.tmp 43) (.tmp 46) rfl w.heap.size 1 (.slice a7 1 cp7) [x] rfl hown7 rfl ?_) | (at_builtin; fail))
 intro a8 cp8 w8 hown8 hf8
 have F8 := hf8 w (by simp) G7
 clear hf8 hown7
 go_wp2_with fail
 go_ret
 exact ⟨a8, cp8, rfl, ownsB_mono hown8 hB0, F8⟩

/-- Add: any row that the call has made. -/
theorem add_any (B : Nat) (a : Option Addr) (cap : Nat) (xs : List Int) (x : Int) (w : World) (hB0 : B ≤ w.heap.size) (h : OwnI B w a cap xs) (hz : xs = [] → a = none ∧ cap = 0) (hl : xs.length ≤ 1000000) :
  Calls Tryz.prog 73 #[.slice a xs.length cap, .int .i64 x] w fun e w' => ∃ a cp, e = .returned (.slice a (addI xs x).length cp) ∧ OwnI B w' a cp (addI xs x) ∧ Frm [] w w' := by
 by_cases h0 : xs = []
 ·obtain ⟨rfl, rfl⟩ := hz h0
  subst h0
  exact add_nil B x w hB0
 ·have hpos : 0 < xs.length := List.length_pos_iff.2 h0
  obtain ⟨g, cp, hs, _⟩ := owns_some (ownsB_mono h (Nat.zero_le _)) hpos
  obtain ⟨rfl, rfl⟩ : a = some ⟨g, 0, none⟩ ∧ cap = cp := by simpa using hs
  exact add_some B g cap xs x w hB0 h hl

end Go.Proofs.YtikpcipkkhmcfaaGreat

/- Contracts of Initials, Stable, Acceptance of the reference. -/
namespace Go.Proofs.YtikpcipkkhmcfaaGreat
open Go.RowKit

def refEvs (row : List Arc) : List Int := row.foldl (fun acc a => addI acc a.1) []
def rinitG (l : Lts) (s : Int) : List Int := if validB l = true ∧ inB l.length s = true then refEvs (l.getD s.toNat []) else []

set_option maxRecDepth 100000 in
set_option maxHeartbeats 1000000 in
theorem rinitials_any (B : Nat) (a : Option Addr) (cap : Nat) (l : Lts) (s : Int) (w : World) (h : LAt B w a cap l) :
  Calls Tryz.prog 140 #[.agg #[.slice a l.length cap], .int .i64 s] w fun e w' => ∃ a' cp, e = .returned (.slice a' (rinitG l s).length cp) ∧ OwnI w.heap.size w' a' cp (rinitG l s) ∧ Frm [] w w' := by
 have f0 : Frm [] w (w.alloc (.cells #[.slice a l.length cap] 25)) := (Frm.refl [] w).alloc _
 have hbox := box1 w (.slice a l.length cap) 25
 have HB := Lib.hid hbox
 have H0 := Lib.hid (h.nil f0 rfl)
 have hva := refValid_any B a cap l _ (h.nil f0 rfl)
 have hl := h.lt
 clear h hbox
 go_enter Tryz.func140, Tryz.ntmps140
 go_wp2_with fail
 refine hva.mono ?_
 rintro e1 w1 ⟨rfl, hf1⟩
 clear hva
 have F1 := f0.trans hf1 (by simp)
 have hb1 := (HB.out.frm hf1 (by simp)).cell (i := 0) rfl
 cases hv : validB l with
 | false =>
  have HR : Hid (rinitG l s = []) := Lib.hid (by rw [rinitG, hv]; rfl)
  clear hv
  go_wp2_with fail
  go_ret
  rw [HR.out]
  exact ⟨none, 0, rfl, OwnI.nil _ _, F1⟩
 | true =>
  have HV := Lib.hid hv
  clear hv
  cases hst : inB l.length s with
  | false =>
   have HR : Hid (rinitG l s = []) := Lib.hid (by rw [rinitG, hst]; simp)
   rcases (inB_false _ _).1 hst with h1 | ⟨h1, h2⟩
   all_goals
    clear hst
    go_wp2_with fail
    go_ret
    rw [HR.out]
    exact ⟨none, 0, rfl, OwnI.nil _ _, F1⟩
  | true =>
   obtain ⟨h1, h2⟩ := (inB_iff _ _).1 hst
   obtain ⟨n, row, rfl, hrow, hget⟩ := inB_row hst
   have HR : Hid (rinitG l (n : Int) = refEvs row) := Lib.hid (by rw [rinitG, hst, HV.out, if_pos ⟨rfl, rfl⟩, hget])
   have hfew : row.length ≤ 262144 := ((vlts_of HV.out).row row (List.mem_of_getElem? hrow)).few
   have H1 := Lib.hid (H0.out.frm hf1 (by simp))
   obtain ⟨b, o, ra, rc, rfl, hb, hc, hrr⟩ := H1.out.cell n row hrow
   have HC := Lib.hid hc
   have HRR := Lib.hid hrr
   have HB1 := Lib.hid hb1
   have hs1 := hf1.size
   simp only [World.alloc, Array.size_push] at hs1
   have hz0 : decide ((n : Int) < 0) = false := by simp
   have hz1 : decide (l.length ≤ n) = false := by simp; omega
   clear hst hrow hget hrr
   go_wp2_with fail
   clear hb1 hc
   go_loopg [5, 6] row.length (fun q v i wr => ∃ (k m : Nat) (acc : List Int) (a' : Option Addr) (cp : Nat), q = row.length - k ∧ k ≤ row.length ∧ i = .int .i64 k ∧ v = .slice a' m cp ∧ acc.length = m ∧ m ≤ k ∧ (acc = [] → a' = none ∧ cp = 0) ∧ (row.drop k).foldl (fun acc a => addI acc a.1) acc = refEvs row ∧ wr.ownsRow w1.heap.size 3 1 (.slice a' m cp) m (ints acc) ∧ Frm [] w1 wr)
   case atStart => exact ⟨0, 0, [], none, 0, rfl, Nat.zero_le _, rfl, rfl, rfl, Nat.le_refl _, fun _ => ⟨rfl, rfl⟩, rfl, OwnI.nil _ _, Frm.refl _ _⟩
   case round =>
    obtain ⟨k, m, acc, a', cp, rfl, hk, rfl, rfl, hm, hmk, hz, hd, hown, hF⟩ := hrel
    have HF := Lib.hid hF
    have HZ := Lib.hid hz
    have i4 : (0 : Int) ≤ (k : Int) := by omega
    have HM := Lib.hid hm
    have HOWN := Lib.hid hown
    have hb2 := hF.cell HB1.out (by simp)
    have hc2 := hF.cell HC.out (by simp)
    have hsz := hF.size
    clear hF hown hm hz
    by_cases hlt : k < row.length
    ·have i5 : (k : Int) < (row.length : Int) := by omega
     obtain ⟨⟨e, t⟩, hy⟩ : ∃ y, row[k]? = some y := ⟨_, List.getElem?_eq_getElem hlt⟩
     rw [drop_cons hy, List.foldl_cons] at hd
     obtain ⟨g1, o1, rfl, _, c1, c2⟩ := HRR.out.2.2.2 k e t hy
     have d1 := HF.out.cell c1 (by simp)
     have HD := Lib.hid hd
     clear c1 c2 hy hd
     have had : Calls Tryz.prog 73 #[.slice a' m cp, .int .i64 e] wr fun e9 w' => ∃ a cp, e9 = .returned (.slice a (addI acc e).length cp) ∧ OwnI w1.heap.size w' a cp (addI acc e) ∧ Frm [] wr w' := by
      have := add_any w1.heap.size a' cp acc e wr hsz (by rw [OwnI, HM.out]; exact HOWN.out) HZ.out (by rw [HM.out]; omega)
      rw [HM.out] at this
      exact this
     have HADD := Lib.hid had
     clear had
     go_wp2_with fail
     refine HADD.out.mono ?_
     rintro e3 w3 ⟨a3, cp3, rfl, ho3, hf3⟩
     go_wp2_with fail
     go_roundg (row.length - (k + 1))
     case rel => exact ⟨k + 1, _, addI acc e, a3, cp3, rfl, by omega, by go_num, rfl, rfl, by have := addI_len acc e; have := HM.out; omega, fun h9 => absurd h9 (addI_ne _ _), HD.out, ho3, HF.out.trans hf3 (by simp)⟩
     case measure => omega
    ·have i5 : ¬ (k : Int) < (row.length : Int) := by omega
     have HRR2 : Hid (acc = refEvs row) := Lib.hid (by rw [← hd, List.drop_eq_nil_of_le (by omega)]; rfl)
     clear hd
     go_wp2_with fail
     go_ret
     rw [HR.out, ← HRR2.out, HM.out]
     exact ⟨a', cp, rfl, by rw [OwnI, HM.out]; exact ownsB_mono HOWN.out (by omega), F1.trans HF.out (by simp)⟩

def rstableG (l : Lts) (s : Int) : Bool := validB l && (inB l.length s && !hasB (rinitG l s) 0)
def raccG (l : Lts) (s : Int) : List Int × Bool := if hasB (rinitG l s) 1 = true then ([1], true) else if rstableG l s = true then (rinitG l s, true) else ([], false)

set_option maxRecDepth 100000 in
set_option maxHeartbeats 1000000 in
theorem rstable_any (B : Nat) (a : Option Addr) (cap : Nat) (l : Lts) (s : Int) (w : World) (h : LAt B w a cap l) :
  Calls Tryz.prog 141 #[.agg #[.slice a l.length cap], .int .i64 s] w fun e w' => e = .returned (.bool (rstableG l s)) ∧ Frm [] w w' := by
 have f0 : Frm [] w (w.alloc (.cells #[.slice a l.length cap] 25)) := (Frm.refl [] w).alloc _
 have hbox := box1 w (.slice a l.length cap) 25
 have HB := Lib.hid hbox
 have H0 := Lib.hid (h.nil f0 rfl)
 have hva := refValid_any B a cap l _ (h.nil f0 rfl)
 have hl := h.lt
 clear h hbox
 go_enter Tryz.func141, Tryz.ntmps141
 go_wp2_with fail
 refine hva.mono ?_
 rintro e1 w1 ⟨rfl, hf1⟩
 clear hva
 have F1 := f0.trans hf1 (by simp)
 have hb1 := (HB.out.frm hf1 (by simp)).cell (i := 0) rfl
 cases hv : validB l with
 | false =>
  have HR : Hid (rstableG l s = false) := Lib.hid (by rw [rstableG, hv]; rfl)
  clear hv
  go_wp2_with fail
  go_ret
  rw [HR.out]
  exact ⟨rfl, F1⟩
 | true =>
  have HV := Lib.hid hv
  clear hv
  cases hst : inB l.length s with
  | false =>
   have HR : Hid (rstableG l s = false) := Lib.hid (by rw [rstableG, hst]; simp)
   rcases (inB_false _ _).1 hst with h1 | ⟨h1, h2⟩
   all_goals
    clear hst
    go_wp2_with fail
    go_ret
    rw [HR.out]
    first | exact ⟨rfl, F1⟩ | exact ⟨ret_bool (by simp; omega), F1⟩
  | true =>
   obtain ⟨h1, h2⟩ := (inB_iff _ _).1 hst
   have hin := rinitials_any B a cap l s w1 (H0.out.frm hf1 (by simp))
   have HI := Lib.hid hin
   have HST := Lib.hid hst
   clear hst hin
   go_wp2_with fail
   refine HI.out.mono ?_
   rintro e2 w2 ⟨a2, cp2, rfl, ho2, hf2⟩
   clear HI
   have F2 := F1.trans hf2 (by simp)
   have hh := has_any _ a2 cp2 (rinitG l s) 0 w2 (ho2.rd (Nat.le_refl _))
   have HR : Hid (rstableG l s = !hasB (rinitG l s) 0) := Lib.hid (by rw [rstableG, HST.out, HV.out]; rfl)
   clear ho2
   go_wp2_with fail
   refine hh.mono ?_
   rintro e3 w3 ⟨rfl, hf3⟩
   clear hh hb1
   go_wp2_with fail
   go_ret
   rw [HR.out]
   exact ⟨rfl, F2.trans hf3 (by simp)⟩

set_option maxRecDepth 100000 in
set_option maxHeartbeats 1000000 in
theorem racc_any (B : Nat) (a : Option Addr) (cap : Nat) (l : Lts) (s : Int) (w : World) (h : LAt B w a cap l) :
  Calls Tryz.prog 119 #[.agg #[.slice a l.length cap], .int .i64 s] w fun e w' => ∃ a' cp, e = .returned (.tuple #[.slice a' (raccG l s).1.length cp, .bool (raccG l s).2]) ∧ OwnI w.heap.size w' a' cp (raccG l s).1 ∧ Frm [] w w' := by
 have f0 : Frm [] w (w.alloc (.cells #[.slice a l.length cap] 25)) := (Frm.refl [] w).alloc _
 have hbox := box1 w (.slice a l.length cap) 25
 have HB := Lib.hid hbox
 have H0 := Lib.hid (h.nil f0 rfl)
 have hin := rinitials_any B a cap l s _ (h.nil f0 rfl)
 have HI := Lib.hid hin
 clear h hbox hin
 go_enter Tryz.func119, Tryz.ntmps119
 go_wp2_with fail
 refine HI.out.mono ?_
 rintro e1 w1 ⟨a1, cp1, rfl, ho1, hf1⟩
 clear HI
 have F1 := f0.trans hf1 (by simp)
 have hb1 := (HB.out.frm hf1 (by simp)).cell (i := 0) rfl
 have hh := has_any _ a1 cp1 (rinitG l s) 1 w1 (ho1.rd (Nat.le_refl _))
 have HO := Lib.hid ho1
 clear ho1
 go_wp2_with fail
 refine hh.mono ?_
 rintro e2 w2 ⟨rfl, hf2⟩
 clear hh hb1
 have F2 := F1.trans hf2 (by simp)
 have hb2 := (HB.out.frm (hf1.trans hf2 (by simp)) (by simp)).cell (i := 0) rfl
 cases ht : hasB (rinitG l s) 1 with
 | true =>
  have HR : Hid (raccG l s = ([1], true)) := Lib.hid (by rw [raccG, ht]; rfl)
  clear ht
  go_wp2_with fail
  go_ret2
  rw [HR.out]
  refine ⟨some ⟨w2.heap.size, 0, none⟩, 1, rfl, ?_, F2.alloc _⟩
  exact ownsB_mono (owni_made w2 [1] (by decide)) (F2.size)
 | false =>
  have hst := rstable_any B a cap l s w2 ((H0.out.frm hf1 (by simp)).frm hf2 (by simp))
  go_wp2_with fail
  refine hst.mono ?_
  rintro e3 w3 ⟨rfl, hf3⟩
  clear hst hb2
  have F3 := F2.trans hf3 (by simp)
  cases hst : rstableG l s with
  | false =>
   have HR : Hid (raccG l s = ([], false)) := Lib.hid (by rw [raccG, ht, hst]; rfl)
   clear ht hst
   go_wp2_with fail
   go_ret2
   rw [HR.out]
   exact ⟨none, 0, rfl, OwnI.nil _ _, F3⟩
  | true =>
   have HR : Hid (raccG l s = (rinitG l s, true)) := Lib.hid (by rw [raccG, ht, hst]; rfl)
   clear ht hst
   go_wp2_with fail
   go_ret2
   rw [HR.out]
   have ho3 := ownsB_frm HO.out (hf2.trans hf3 (by simp)) (by simp)
   exact ⟨a1, cp1, rfl, ownsB_mono ho3 (by have := f0.size; omega), F3⟩

end Go.Proofs.YtikpcipkkhmcfaaGreat

/- Plain laws: events, stability and acceptance of the program and of the reference agree. -/
namespace Go.Proofs.YtikpcipkkhmcfaaGreat
open Go.RowKit

theorem addI_nil (x : Int) : addI [] x = [x] := by simp [addI, addAt]
theorem addI_cons (a : Int) (r : List Int) (x : Int) : addI (a :: r) x = if a < x then a :: addI r x else if a = x then a :: r else x :: a :: r := by
 unfold addI addAt
 by_cases h : a < x
 ·simp only [List.takeWhile_cons, h, decide_true, if_true, List.length_cons, List.getElem?_cons_succ, List.take_succ_cons, List.drop_succ_cons, List.cons_append]
  split <;> rfl
 ·simp [h]
theorem mem_addI (r : List Int) (x y : Int) : y ∈ addI r x ↔ y = x ∨ y ∈ r := by
 induction r with
 | nil => rw [addI_nil]; simp
 | cons a s ih =>
  rw [addI_cons]
  split
  ·rw [List.mem_cons, ih, List.mem_cons]
   constructor
   ·rintro (h | h | h)
    ·exact .inr (.inl h)
    ·exact .inl h
    ·exact .inr (.inr h)
   ·rintro (h | h | h)
    ·exact .inr (.inl h)
    ·exact .inl h
    ·exact .inr (.inr h)
  ·split
   ·rename_i h
    subst h
    rw [List.mem_cons]
    constructor
    ·exact .inr
    ·rintro (h | h)
     ·exact .inl h
     ·exact h
   ·rw [List.mem_cons]
theorem addI_last : ∀ (acc : List Int) (e : Int), acc.Pairwise (· < ·) → (∀ x ∈ acc, x ≤ e) → addI acc e = if acc.getLast? = some e then acc else acc ++ [e]
 | [], e, _, _ => by rw [addI_nil]; rfl
 | [a], e, _, h => by
  rw [addI_cons, addI_nil]
  have := h a (by simp)
  by_cases h1 : a < e
  ·have h2 : ¬ a = e := by omega
   simp [h1, h2]
  ·have h2 : a = e := by omega
   simp [h2]
 | a :: b :: s, e, hp, h => by
  have h1 : a < b := (List.pairwise_cons.1 hp).1 b (by simp)
  have h2 : b ≤ e := h b (by simp)
  rw [addI_cons, if_pos (by omega), addI_last (b :: s) e (List.pairwise_cons.1 hp).2 (fun x hx => h x (by simp [hx])), List.getLast?_cons_cons]
  split <;> simp

theorem ascB_le : ∀ (row : List Arc), ascB row = true → row.Pairwise (fun a b => a.1 ≤ b.1)
 | [], _ => List.Pairwise.nil
 | [a], _ => by simp
 | a :: b :: r, h => by
  simp only [ascB, Bool.and_eq_true] at h
  have ih := ascB_le (b :: r) h.2
  have hab : a.1 ≤ b.1 := by
   have := h.1
   simp only [ltA, Bool.or_eq_true, Bool.and_eq_true, decide_eq_true_eq] at this
   omega
  refine List.pairwise_cons.2 ⟨fun x hx => ?_, ih⟩
  rcases List.mem_cons.1 hx with rfl | hx
  ·exact hab
  ·exact Int.le_trans hab ((List.pairwise_cons.1 ih).1 x hx)

theorem initP_eq : ∀ (row : List Arc) (acc : List Int), acc.Pairwise (· < ·) → (∀ x ∈ acc, ∀ a ∈ row, x ≤ a.1) → row.Pairwise (fun a b => a.1 ≤ b.1) → initP acc row = row.foldl (fun acc a => addI acc a.1) acc
 | [], acc, _, _, _ => rfl
 | a :: r, acc, h1, h2, h3 => by
  have h4 := addI_last acc a.1 h1 (fun x hx => h2 x hx a (by simp))
  rw [initP, List.foldl_cons]
  have h5 := List.pairwise_cons.1 h3
  by_cases hl : acc.getLast? = some a.1
  ·rw [if_pos hl] at h4 ⊢
   rw [h4]
   exact initP_eq r acc h1 (fun x hx b hb => h2 x hx b (by simp [hb])) h5.2
  ·rw [if_neg hl] at h4 ⊢
   rw [h4]
   refine initP_eq r (acc ++ [a.1]) ?_ (fun x hx b hb => ?_) h5.2
   ·rw [List.pairwise_append]
    refine ⟨h1, by simp, fun x hx y hy => ?_⟩
    rw [List.mem_singleton] at hy
    subst hy
    have h6 := h2 x hx a (by simp)
    have h7 : x ≠ a.1 := by
     rintro rfl
     apply hl
     obtain ⟨pre, suf, rfl⟩ := List.append_of_mem hx
     have h8 : suf = [] := by
      cases suf with
      | nil => rfl
      | cons z s =>
       have h9 : a.1 < z := by
        have := (List.pairwise_append.1 h1).2.1
        exact (List.pairwise_cons.1 this).1 z (by simp)
       have := h2 z (by simp) a (by simp)
       omega
     subst h8
     simp
    omega
   ·rcases List.mem_append.1 hx with hx | hx
    ·exact h2 x hx b (by simp [hb])
    ·rw [List.mem_singleton] at hx
     subst hx
     exact h5.1 b hb

theorem evs_eq {row : List Arc} (h : ascB row = true) : evs row = refEvs row := initP_eq row [] List.Pairwise.nil (by simp) (ascB_le row h)

theorem mem_foldl_add : ∀ (row : List Arc) (acc : List Int) (x : Int), x ∈ row.foldl (fun acc a => addI acc a.1) acc ↔ x ∈ acc ∨ ∃ a ∈ row, a.1 = x
 | [], acc, x => by simp
 | a :: r, acc, x => by
  rw [List.foldl_cons, mem_foldl_add r, mem_addI]
  constructor
  ·rintro ((h | h) | ⟨b, hb, h⟩)
   ·exact .inr ⟨a, by simp, h.symm⟩
   ·exact .inl h
   ·exact .inr ⟨b, by simp [hb], h⟩
  ·rintro (h | ⟨b, hb, h⟩)
   ·exact .inl (.inr h)
   ·rcases List.mem_cons.1 hb with rfl | hb
    ·exact .inl (.inl h.symm)
    ·exact .inr ⟨b, hb, h⟩
theorem hasB_iff (xs : List Int) (x : Int) : hasB xs x = true ↔ x ∈ xs := by
 simp [hasB]
theorem has_refEvs (row : List Arc) (x : Int) : hasB (refEvs row) x = true ↔ ∃ a ∈ row, a.1 = x := by
 rw [hasB_iff, refEvs, mem_foldl_add]
 simp
theorem stable_eq {n : Nat} {row : List Arc} (h : VRow n row) : hasB (refEvs row) 0 = !stableR row := by
 rw [Bool.eq_iff_iff, has_refEvs]
 cases row with
 | nil => simp [stableR]
 | cons a r =>
  simp only [stableR, Bool.not_eq_true', decide_eq_false_iff_not, Decidable.not_not]
  constructor
  ·rintro ⟨b, hb, h0⟩
   rcases List.mem_cons.1 hb with rfl | hb
   ·exact h0
   ·have h1 := (List.pairwise_cons.1 (ascB_le _ h.asc)).1 b hb
    have h2 := (h.ok a.1 a.2 (by simp)).1
    omega
  ·intro h0
   exact ⟨a, by simp, h0⟩
theorem tick_eq (row : List Arc) : hasB (refEvs row) 1 = anyA isTick row := by
 rw [Bool.eq_iff_iff, has_refEvs]
 simp only [anyA, List.any_eq_true, isTick, decide_eq_true_eq]

theorem stableG_eq (l : Lts) (s : Int) : stableG l s = rstableG l s := by
 unfold stableG rstableG
 cases hv : validB l with
 | false => rfl
 | true =>
  cases hb : inB l.length s with
  | false => rfl
  | true =>
   obtain ⟨n, row, rfl, hrow, hget⟩ := inB_row hb
   have hr := (vlts_of hv).row row (List.mem_of_getElem? hrow)
   rw [rinitG, if_pos ⟨hv, hb⟩, hget, stable_eq hr]
   first | done | simp
theorem accG_eq (l : Lts) (s : Int) : accG l s = raccG l s := by
 unfold accG raccG
 split
 ·rename_i h
  obtain ⟨n, row, rfl, hrow, hget⟩ := inB_row h.2
  have hr := (vlts_of h.1).row row (List.mem_of_getElem? hrow)
  rw [← stableG_eq, stableG, h.1, h.2, rinitG, if_pos h, hget, accF, tick_eq, evs_eq hr.asc]
  rfl
 ·rename_i h
  have h1 : rinitG l s = [] := by rw [rinitG, if_neg h]
  have h2 : rstableG l s = false := by
   rw [← stableG_eq, stableG]
   cases hv : validB l with
   | false => rfl
   | true =>
    cases hb : inB l.length s with
    | false => rfl
    | true => exact absurd ⟨hv, hb⟩ h
  rw [h1, h2]
  rfl

end Go.Proofs.YtikpcipkkhmcfaaGreat

/- Contract of Huge. -/
namespace Go.Proofs.YtikpcipkkhmcfaaGreat
open Go.RowKit

end Go.Proofs.YtikpcipkkhmcfaaGreat
