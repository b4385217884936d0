/- Merged text: GH, GI of the notes. -/
import Derived.Test.YtikpcipkkhmcfaaGreatQ05
/- Contract of flow.Initials. -/
namespace Go.Proofs.YtikpcipkkhmcfaaGreat
open Go.RowKit

def initP : List Int → List Arc → List Int
  | acc, [] => acc
  | acc, a :: r => if acc.getLast? = some a.1 then initP acc r else initP (acc ++ [a.1]) r
def evs (row : List Arc) : List Int := initP [] row

theorem cells_new_at (w : World) (x : Int) (t : TypeId) (k : Nat) (hk : w.heap.size = k) : ∀ (j : Nat) (u : Value), (ints [x])[j]? = some u → (w.alloc (.cells #[.int .i64 x] t)).cell? ((⟨k, 0, none⟩ : Addr).add j) = some u := by
  subst hk
  exact cells_new_int w x t
theorem owns_drewN {B : Nat} {w : World} {e size n : Nat} {v : Value} {xs : List Value} (h : w.ownsRow B e size v n xs) (k : Nat) : (w.drewN k).ownsRow B e size v n xs := h

set_option maxRecDepth 100000 in
set_option maxHeartbeats 1000000 in
theorem finitials_any (B : Nat) (a : Option Addr) (cap : Nat) (l : Lts) (s : Nat) (row : List Arc) (w : World) (h : LAt B w a cap l) (hs : l[s]? = some row) (hfew : row.length ≤ 1000000) :
    Calls Tryz.prog 115 #[.agg #[.slice a l.length cap], .int .i64 (s : Int)] w fun e w' => ∃ a' cp, e = .returned (.slice a' (evs row).length cp) ∧ OwnI w.heap.size w' a' cp (evs row) ∧ Frm [] w w' := by
  have f0 : Frm [] w (w.alloc (.cells #[.slice a l.length cap] 25)) := (Frm.refl [] w).alloc _
  have hbox := box1 w (.slice a l.length cap) 25
  have hl := h.lt
  have h' := h.nil f0 rfl
  have hsl : s < l.length := (List.getElem?_eq_some_iff.1 hs).1
  obtain ⟨b, o, ra, rc, rfl, hb, hc, hrr⟩ := h'.cell s row hs
  have i1 : (s : Int) < (l.length : Int) := by omega
  have i2 : (0 : Int) ≤ (s : Int) := by omega
  have hrl : (row.length : Int) ≤ 1000000 := by omega
  have H := Lib.hid hrr
  have HB := Lib.hid hbox
  have HC := Lib.hid hc
  clear h h' hs hrr hbox
  go_enter Tryz.func115, Tryz.ntmps115
  go_wp2_with fail
  clear hc
  go_loopg [5, 14] row.length (fun q v i wr => ∃ (k n : Nat) (acc : List Int) (a' : Option Addr) (cp : Nat), q = row.length - k ∧ k ≤ row.length ∧ i = .int .i64 k ∧ v = .slice a' n cp ∧ acc.length = n ∧ n ≤ k ∧ initP acc (row.drop k) = evs row ∧ wr.ownsRow (w.heap.size + 1) 3 1 (.slice a' n cp) n (ints acc) ∧ Frm [] (w.alloc (.cells #[.slice (some ⟨b, o, none⟩) l.length cap] 25)) wr)
  case atStart => exact ⟨0, 0, [], none, 0, rfl, Nat.zero_le _, rfl, rfl, rfl, Nat.le_refl _, rfl, OwnI.nil _ _, Frm.refl _ _⟩
  case round =>
    obtain ⟨k, n, acc, a', cp, rfl, hk, rfl, rfl, hn, hnk, hd, hown, hF⟩ := hrel
    have HF := Lib.hid hF
    have i4 : (0 : Int) ≤ (k : Int) := by omega
    have i6 : (n : Int) ≤ 1000000 := by omega
    have hbc := (HB.out.frm hF (by simp)).cell (i := 0) rfl
    have hcc := hF.cell HC.out (by simp)
    have n1 : w.heap.size < wr.heap.size := World.block_lt_of_cell? _ _ hbc
    have n2 : b < wr.heap.size := World.block_lt_of_cell? _ _ hcc
    have HOWN := Lib.hid hown
    have HN := Lib.hid hn
    clear hF hown hn
    by_cases hlt : k < row.length
    · have i5 : (k : Int) < (row.length : Int) := by omega
      obtain ⟨⟨e, t⟩, hy⟩ : ∃ y, row[k]? = some y := ⟨_, List.getElem?_eq_getElem hlt⟩
      rw [drop_cons hy, initP] at hd
      obtain ⟨g1, o1, rfl, _, c1, c2⟩ := H.out.2.2.2 k e t hy
      have d1 := HF.out.cell c1 (by simp)
      have d2 := HF.out.cell c2 (by simp)
      have hnew : RowAt (wr.alloc (.cells #[.int .i64 e, .int .i64 t] 66)) wr.heap.size 66 [.int .i64 e, .int .i64 t] := RowAt.made _ _ _ _ rfl
      have HNEW := Lib.hid hnew
      clear c1 c2 hy hnew
      by_cases hsame : acc.getLast? = some e
      · rw [if_pos hsame] at hd
        have HD := Lib.hid hd
        obtain ⟨m, rfl⟩ : ∃ m, n = m + 1 := ⟨n - 1, by
          have := HN.out
          cases n with
          | zero => rw [List.eq_nil_of_length_eq_zero this] at hsame; simp at hsame
          | succ m => omega⟩
        obtain ⟨g, cp', hsl, _, _, hrow⟩ := owns_some (ownsB_mono HOWN.out (Nat.zero_le _)) (by omega)
        obtain ⟨rfl, rfl⟩ : a' = some ⟨g, 0, none⟩ ∧ cp = cp' := by simpa using hsl
        have hlast : (ints acc)[m]? = some (.int .i64 e) := by
          rw [List.getLast?_eq_getElem?, HN.out, Nat.add_sub_cancel] at hsame
          simp [ints, hsame]
        have hcell := (hrow.alloc (.cells #[.int .i64 e, .int .i64 t] 66)).cell hlast
        have hcell2 := hrow.cell hlast
        have n3 : g < wr.heap.size := hrow.lt
        have hw1 : IntKind.i64.wrap (m : Int) = (m : Int) := IntWalk.i64_in _ (by omega)
        have i7 : (0 : Int) ≤ (m : Int) := by omega
        have i8 : (m : Int) < (m : Int) + 1 := by omega
        have i9 : ((m : Int) + 1 == 0) = false := by simp; omega
        have hee : (e != e) = false := by simp
        clear hd hsame hsl hrow hlast
        go_wp2_with fail
        go_quiet (fail)
        go_wp2_with fail
        go_roundg (row.length - (k + 1))
        case rel => exact ⟨k + 1, m + 1, acc, _, _, rfl, by omega, by go_num, rfl, HN.out, by omega, HD.out, owns_drewN (HOWN.out.alloc _) _, (HF.out.alloc _).drewN _⟩
        case measure => omega
      · rw [if_neg hsame] at hd
        have HD := Lib.hid hd
        have hlen9 : (acc ++ [e]).length = n + 1 := by rw [List.length_append, HN.out]; rfl
        have HLEN := Lib.hid hlen9
        have hbs : w.heap.size + 1 ≤ wr.heap.size := by omega
        clear hlen9
        cases n with
        | zero =>
          clear hd hsame
          go_wp2_with fail
          go_quiet (fail)
          go_wp2_with (first | (at_builtin; refine wpl_app_int rfl (.tmp 32) (.tmp 35) rfl (w.heap.size + 1) 0 1 (.slice _ 0 _) acc rfl ((owns_drewN (HOWN.out.alloc _) _).alloc _) HN.out ⟨wr.heap.size + 1, 0, none⟩ 1 1 [e] rfl rfl (cells_new_at _ e _ _ (by simp)) rfl (by omega) (by simp; omega) ?_) | (at_builtin; fail))
          intro a6 cp6 w6 hown6 hf6 _
          have G6 := hf6 (w.alloc (.cells #[.slice (some ⟨b, o, none⟩) l.length cap] 25)) (by simp) (((HF.out.alloc _).drewN _).alloc _)
          clear hf6
          go_wp2_with fail
          go_roundg (row.length - (k + 1))
          case rel => exact ⟨k + 1, 1, acc ++ [e], _, _, rfl, by omega, by go_num, rfl, HLEN.out, by omega, HD.out, hown6, G6⟩
          case measure => omega
        | succ m =>
          obtain ⟨g, cp', hsl, _, _, hrow⟩ := owns_some (ownsB_mono HOWN.out (Nat.zero_le _)) (by omega)
          obtain ⟨rfl, rfl⟩ : a' = some ⟨g, 0, none⟩ ∧ cp = cp' := by simpa using hsl
          obtain ⟨y, hy⟩ : ∃ y, acc[m]? = some y := ⟨_, List.getElem?_eq_getElem (by rw [HN.out]; omega)⟩
          have hye : (y != e) = true := by
            rw [List.getLast?_eq_getElem?, HN.out, Nat.add_sub_cancel, hy] at hsame
            simpa using hsame
          have hlast : (ints acc)[m]? = some (.int .i64 y) := by simp [ints, hy]
          have hcell := (hrow.alloc (.cells #[.int .i64 e, .int .i64 t] 66)).cell hlast
          have hcell2 := hrow.cell hlast
          have n3 : g < wr.heap.size := hrow.lt
          have hw1 : IntKind.i64.wrap (m : Int) = (m : Int) := IntWalk.i64_in _ (by omega)
          have i7 : (0 : Int) ≤ (m : Int) := by omega
          have i8 : (m : Int) < (m : Int) + 1 := by omega
          have i9 : ((m : Int) + 1 == 0) = false := by simp; omega
          clear hd hsame hsl hrow hlast hy
          go_wp2_with fail
          go_quiet (fail)
          go_wp2_with (first | (at_builtin; refine wpl_app_int rfl (.tmp 32) (.tmp 35) rfl (w.heap.size + 1) (m + 1) (m + 2) (.slice _ (m + 1) _) acc rfl ((owns_drewN (HOWN.out.alloc _) _).alloc _) HN.out ⟨wr.heap.size + 1, 0, none⟩ 1 1 [e] rfl rfl (cells_new_at _ e _ _ (by simp)) rfl (by omega) (by simp; omega) ?_) | (at_builtin; fail))
          intro a6 cp6 w6 hown6 hf6 _
          have G6 := hf6 (w.alloc (.cells #[.slice (some ⟨b, o, none⟩) l.length cap] 25)) (by simp) (((HF.out.alloc _).drewN _).alloc _)
          clear hf6
          go_wp2_with fail
          go_roundg (row.length - (k + 1))
          case rel => exact ⟨k + 1, (m + 2), acc ++ [e], _, _, rfl, by omega, by go_num, rfl, HLEN.out, by omega, HD.out, hown6, G6⟩
          case measure => omega
    · have i5 : ¬ (k : Int) < (row.length : Int) := by omega
      have HR : Hid (acc = evs row) := Lib.hid (by rw [← hd, List.drop_eq_nil_of_le (by omega)]; rfl)
      clear hd
      go_wp2_with fail
      go_ret
      rw [← HR.out, HN.out]
      exact ⟨a', cp, rfl, by rw [OwnI, HN.out]; exact ownsB_mono HOWN.out (by omega), f0.trans HF.out (by simp)⟩

end Go.Proofs.YtikpcipkkhmcfaaGreat

/- Contracts of flow.Acceptance, graph.Initials, graph.Stable, graph.Acceptance. -/
namespace Go.Proofs.YtikpcipkkhmcfaaGreat
open Go.RowKit

/-! ### what a valid system is -/
theorem looseGo_row (n : Nat) : ∀ (c : Nat) (l : Lts), looseGo n c l = true → ∀ row ∈ l, row.length ≤ 262144 ∧ row.all (arcOk n) = true
  | _, [], _, row, hr => by simp at hr
  | c, x :: r, h, row, hr => by
    simp only [looseGo, Bool.and_eq_true, decide_eq_true_eq] at h
    rcases List.mem_cons.1 hr with rfl | hr
    · exact ⟨by omega, h.2.1⟩
    · exact looseGo_row n _ r h.2.2 row hr
structure VRow (n : Nat) (row : List Arc) : Prop where
  few : row.length ≤ 262144
  asc : ascB row = true
  ok : ∀ (e t : Int), (e, t) ∈ row → 0 ≤ e ∧ e ≤ 1025 ∧ 0 ≤ t ∧ t < (n : Int)
structure VLts (l : Lts) : Prop where
  pos : 1 ≤ l.length
  few : l.length ≤ 16384
  row : ∀ row ∈ l, VRow l.length row
theorem vlts_of {l : Lts} (h : validB l = true) : VLts l := by
  simp only [validB, looseB, Bool.and_eq_true, decide_eq_true_eq] at h
  obtain ⟨⟨⟨h1, h2⟩, h3⟩, h4⟩ := h
  refine ⟨h1, h2, fun row hr => ?_⟩
  obtain ⟨h5, h6⟩ := looseGo_row _ _ _ h3 row hr
  refine ⟨h5, List.all_eq_true.1 h4 row hr, fun e t he => ?_⟩
  exact arcOk_true (List.all_eq_true.1 h6 _ he)
theorem inB_row {l : Lts} {s : Int} (h : inB l.length s = true) : ∃ (n : Nat) (row : List Arc), s = (n : Int) ∧ l[n]? = some row ∧ l.getD s.toNat [] = row := by
  obtain ⟨h1, h2⟩ := (inB_iff _ _).1 h
  refine ⟨s.toNat, l[s.toNat]'(by omega), by omega, List.getElem?_eq_getElem (by omega), ?_⟩
  rw [List.getD_eq_getElem?_getD, List.getElem?_eq_getElem (by omega)]
  rfl

theorem owni_made (w : World) (xs : List Int) (hn : xs.length ≤ maxLen) : OwnI w.heap.size (w.alloc (.cells (ints xs).toArray 3)) (some ⟨w.heap.size, 0, none⟩) xs.length xs :=
  ⟨by simp [ints], .inr ⟨w.heap.size, xs.length, (ints xs).toArray, rfl, Nat.le_refl _, heap_alloc_new w _, Nat.le_refl _, hn, by simp [ints], by simp only [ints, Nat.mul_one]; exact List.take_of_length_le (by simp)⟩⟩

def accF (row : List Arc) : List Int × Bool := if anyA isTick row = true then ([1], true) else if stableR row = true then (evs row, true) else ([], false)

set_option maxRecDepth 100000 in
set_option maxHeartbeats 1000000 in
theorem facc_any (B : Nat) (a : Option Addr) (cap : Nat) (l : Lts) (s : Nat) (row : List Arc) (w : World) (h : LAt B w a cap l) (hs : l[s]? = some row) (hfew : row.length ≤ 1000000) :
    Calls Tryz.prog 91 #[.agg #[.slice a l.length cap], .int .i64 (s : Int)] w fun e w' => ∃ a' cp, e = .returned (.tuple #[.slice a' (accF row).1.length cp, .bool (accF row).2]) ∧ OwnI w.heap.size w' a' cp (accF row).1 ∧ Frm [] w w' := by
  have f0 : Frm [] w (w.alloc (.cells #[.slice a l.length cap] 25)) := (Frm.refl [] w).alloc _
  have hbox := box1 w (.slice a l.length cap) 25
  have HB := Lib.hid hbox
  have H0 := Lib.hid (h.nil f0 rfl)
  have HS := Lib.hid hs
  have htk := ticks_any B a cap l s row _ (h.nil f0 rfl) hs
  clear h hs hbox
  go_enter Tryz.func91, Tryz.ntmps91
  go_wp2_with fail
  refine htk.mono ?_
  rintro e1 w1 ⟨rfl, hf1⟩
  clear htk
  have F1 := f0.trans hf1 (by simp)
  have hb1 := (HB.out.frm hf1 (by simp)).cell (i := 0) rfl
  cases ht : anyA isTick row with
  | true =>
    have HR : Hid (accF row = ([1], true)) := Lib.hid (by rw [accF, ht]; rfl)
    clear ht
    go_wp2_with fail
    go_ret2
    rw [HR.out]
    refine ⟨some ⟨w1.heap.size, 0, none⟩, 1, rfl, ?_, F1.alloc _⟩
    exact ownsB_mono (owni_made w1 [1] (by decide)) (F1.size)
  | false =>
    have hst := fstable_any B a cap l s row w1 (H0.out.frm hf1 (by simp)) HS.out
    go_wp2_with fail
    refine hst.mono ?_
    rintro e2 w2 ⟨rfl, hf2⟩
    clear hst hb1
    have F2 := F1.trans hf2 (by simp)
    have hb2 := (HB.out.frm (hf1.trans hf2 (by simp)) (by simp)).cell (i := 0) rfl
    cases hst : stableR row with
    | false =>
      have HR : Hid (accF row = ([], false)) := Lib.hid (by rw [accF, ht, hst]; rfl)
      clear ht hst
      go_wp2_with fail
      go_ret2
      rw [HR.out]
      exact ⟨none, 0, rfl, OwnI.nil _ _, F2⟩
    | true =>
      have HR : Hid (accF row = (evs row, true)) := Lib.hid (by rw [accF, ht, hst]; rfl)
      have hfi := finitials_any B a cap l s row w2 ((H0.out.frm hf1 (by simp)).frm hf2 (by simp)) HS.out hfew
      clear ht hst
      go_wp2_with fail
      refine hfi.mono ?_
      rintro e3 w3 ⟨a3, cp3, rfl, ho3, hf3⟩
      clear hfi
      go_wp2_with fail
      go_ret2
      rw [HR.out]
      exact ⟨a3, cp3, rfl, ownsB_mono ho3 F2.size, F2.trans hf3 (by simp)⟩

def stableG (l : Lts) (s : Int) : Bool := validB l && (inB l.length s && stableR (l.getD s.toNat []))
def accG (l : Lts) (s : Int) : List Int × Bool := if validB l = true ∧ inB l.length s = true then accF (l.getD s.toNat []) else ([], false)

end Go.Proofs.YtikpcipkkhmcfaaGreat
