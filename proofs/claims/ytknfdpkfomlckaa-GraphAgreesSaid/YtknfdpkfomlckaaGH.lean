/- Contract of flow.Initials. -/
import Derived.Test.YtknfdpkfomlckaaGG
namespace Go.Proofs.Ytknfdpkfomlckaa
open Go.RowKit

def initP : List Int → List Arc → List Int
  | acc, [] => acc
  | acc, a :: r => if acc.getLast? = some a.1 then initP acc r else initP (acc ++ [a.1]) r
def evs (row : List Arc) : List Int := initP [] row

theorem initP_len (acc : List Int) (row : List Arc) : (initP acc row).length ≤ acc.length + row.length := by
  induction row generalizing acc with
  | nil => simp [initP]
  | cons a r ih =>
    rw [initP]
    split
    · have := ih acc; simp; omega
    · have := ih (acc ++ [a.1]); simp at this ⊢; omega

theorem cells_new_at (w : World) (x : Int) (t : TypeId) (k : Nat) (hk : w.heap.size = k) : ∀ (j : Nat) (u : Value), (ints [x])[j]? = some u → (w.alloc (.cells #[.int .i64 x] t)).cell? ((⟨k, 0, none⟩ : Addr).add j) = some u := by
  subst hk
  exact cells_new_int w x t
theorem owns_drewN {B : Nat} {w : World} {e size n : Nat} {v : Value} {xs : List Value} (h : w.ownsRow B e size v n xs) (k : Nat) : (w.drewN k).ownsRow B e size v n xs := h

set_option maxRecDepth 100000 in
set_option maxHeartbeats 1000000 in
theorem finitials_any (B : Nat) (a : Option Addr) (cap : Nat) (l : Lts) (s : Nat) (row : List Arc) (w : World) (h : LAt B w a cap l) (hs : l[s]? = some row) (hfew : row.length ≤ 1000000) :
    Calls Try.prog 75 #[.agg #[.slice a l.length cap], .int .i64 (s : Int)] w fun e w' => ∃ a' cp, e = .returned (.slice a' (evs row).length cp) ∧ OwnI w.heap.size w' a' cp (evs row) ∧ Frm [] w w' := by
  have f0 : Frm [] w (w.alloc (.cells #[.slice a l.length cap] 25)) := (Frm.refl [] w).alloc _
  have hbox := box1 w (.slice a l.length cap) 25
  have hl := h.lt
  have h' := h.nil f0 rfl
  have hsl : s < l.length := (List.getElem?_eq_some_iff.1 hs).1
  obtain ⟨b, o, ra, rc, rfl, hb, hc, hrr⟩ := h'.cell s row hs
  have i1 : (s : Int) < (l.length : Int) := by omega
  have i2 : (0 : Int) ≤ (s : Int) := by omega
  have hrl : (row.length : Int) ≤ 1000000 := by omega
  have H := Lib.hid hrr
  have HB := Lib.hid hbox
  have HC := Lib.hid hc
  clear h h' hs hrr hbox
  go_enter Try.func75, Try.ntmps75
  go_wp2_with fail
  clear hc
  go_loopg [5, 14] row.length (fun q v i wr => ∃ (k n : Nat) (acc : List Int) (a' : Option Addr) (cp : Nat), q = row.length - k ∧ k ≤ row.length ∧ i = .int .i64 k ∧ v = .slice a' n cp ∧ acc.length = n ∧ n ≤ k ∧ initP acc (row.drop k) = evs row ∧ wr.ownsRow (w.heap.size + 1) 3 1 (.slice a' n cp) n (ints acc) ∧ Frm [] (w.alloc (.cells #[.slice (some ⟨b, o, none⟩) l.length cap] 25)) wr)
  case atStart => exact ⟨0, 0, [], none, 0, rfl, Nat.zero_le _, rfl, rfl, rfl, Nat.le_refl _, rfl, OwnI.nil _ _, Frm.refl _ _⟩
  case round =>
    obtain ⟨k, n, acc, a', cp, rfl, hk, rfl, rfl, hn, hnk, hd, hown, hF⟩ := hrel
    have HF := Lib.hid hF
    have i4 : (0 : Int) ≤ (k : Int) := by omega
    have i6 : (n : Int) ≤ 1000000 := by omega
    have hbc := (HB.out.frm hF (by simp)).cell (i := 0) rfl
    have hcc := hF.cell HC.out (by simp)
    have n1 : w.heap.size < wr.heap.size := World.block_lt_of_cell? _ _ hbc
    have n2 : b < wr.heap.size := World.block_lt_of_cell? _ _ hcc
    have HOWN := Lib.hid hown
    have HN := Lib.hid hn
    clear hF hown hn
    by_cases hlt : k < row.length
    · have i5 : (k : Int) < (row.length : Int) := by omega
      obtain ⟨⟨e, t⟩, hy⟩ : ∃ y, row[k]? = some y := ⟨_, List.getElem?_eq_getElem hlt⟩
      rw [drop_cons hy, initP] at hd
      obtain ⟨g1, o1, rfl, _, c1, c2⟩ := H.out.2.2.2 k e t hy
      have d1 := HF.out.cell c1 (by simp)
      have d2 := HF.out.cell c2 (by simp)
      have hnew : RowAt (wr.alloc (.cells #[.int .i64 e, .int .i64 t] 51)) wr.heap.size 51 [.int .i64 e, .int .i64 t] := RowAt.made _ _ _ _ rfl
      have HNEW := Lib.hid hnew
      clear c1 c2 hy hnew
      by_cases hsame : acc.getLast? = some e
      · rw [if_pos hsame] at hd
        have HD := Lib.hid hd
        obtain ⟨m, rfl⟩ : ∃ m, n = m + 1 := ⟨n - 1, by
          have := HN.out
          cases n with
          | zero => rw [List.eq_nil_of_length_eq_zero this] at hsame; simp at hsame
          | succ m => omega⟩
        obtain ⟨g, cp', hsl, _, _, hrow⟩ := owns_some (ownsB_mono HOWN.out (Nat.zero_le _)) (by omega)
        obtain ⟨rfl, rfl⟩ : a' = some ⟨g, 0, none⟩ ∧ cp = cp' := by simpa using hsl
        have hlast : (ints acc)[m]? = some (.int .i64 e) := by
          rw [List.getLast?_eq_getElem?, HN.out, Nat.add_sub_cancel] at hsame
          simp [ints, hsame]
        have hcell := (hrow.alloc (.cells #[.int .i64 e, .int .i64 t] 51)).cell hlast
        have hcell2 := hrow.cell hlast
        have n3 : g < wr.heap.size := hrow.lt
        have hw1 : IntKind.i64.wrap (m : Int) = (m : Int) := IntWalk.i64_in _ (by omega)
        have i7 : (0 : Int) ≤ (m : Int) := by omega
        have i8 : (m : Int) < (m : Int) + 1 := by omega
        have i9 : ((m : Int) + 1 == 0) = false := by simp; omega
        have hee : (e != e) = false := by simp
        clear hd hsame hsl hrow hlast
        go_wp2_with fail
        go_quiet (fail)
        go_wp2_with fail
        go_roundg (row.length - (k + 1))
        case rel => exact ⟨k + 1, m + 1, acc, _, _, rfl, by omega, by go_num, rfl, HN.out, by omega, HD.out, owns_drewN (HOWN.out.alloc _) _, (HF.out.alloc _).drewN _⟩
        case measure => omega
      · rw [if_neg hsame] at hd
        have HD := Lib.hid hd
        have hlen9 : (acc ++ [e]).length = n + 1 := by rw [List.length_append, HN.out]; rfl
        have HLEN := Lib.hid hlen9
        have hbs : w.heap.size + 1 ≤ wr.heap.size := by omega
        clear hlen9
        cases n with
        | zero =>
          clear hd hsame
          go_wp2_with fail
          go_quiet (fail)
          go_wp2_with (first | (at_builtin; refine wpl_app_int rfl (.tmp 32) (.tmp 35) rfl (w.heap.size + 1) 0 1 (.slice _ 0 _) acc rfl ((owns_drewN (HOWN.out.alloc _) _).alloc _) HN.out ⟨wr.heap.size + 1, 0, none⟩ 1 1 [e] rfl rfl (cells_new_at _ e _ _ (by simp)) rfl (by omega) (by simp; omega) ?_) | (at_builtin; fail))
          intro a6 cp6 w6 hown6 hf6 _
          have G6 := hf6 (w.alloc (.cells #[.slice (some ⟨b, o, none⟩) l.length cap] 25)) (by simp) (((HF.out.alloc _).drewN _).alloc _)
          clear hf6
          go_wp2_with fail
          go_roundg (row.length - (k + 1))
          case rel => exact ⟨k + 1, 1, acc ++ [e], _, _, rfl, by omega, by go_num, rfl, HLEN.out, by omega, HD.out, hown6, G6⟩
          case measure => omega
        | succ m =>
          obtain ⟨g, cp', hsl, _, _, hrow⟩ := owns_some (ownsB_mono HOWN.out (Nat.zero_le _)) (by omega)
          obtain ⟨rfl, rfl⟩ : a' = some ⟨g, 0, none⟩ ∧ cp = cp' := by simpa using hsl
          obtain ⟨y, hy⟩ : ∃ y, acc[m]? = some y := ⟨_, List.getElem?_eq_getElem (by rw [HN.out]; omega)⟩
          have hye : (y != e) = true := by
            rw [List.getLast?_eq_getElem?, HN.out, Nat.add_sub_cancel, hy] at hsame
            simpa using hsame
          have hlast : (ints acc)[m]? = some (.int .i64 y) := by simp [ints, hy]
          have hcell := (hrow.alloc (.cells #[.int .i64 e, .int .i64 t] 51)).cell hlast
          have hcell2 := hrow.cell hlast
          have n3 : g < wr.heap.size := hrow.lt
          have hw1 : IntKind.i64.wrap (m : Int) = (m : Int) := IntWalk.i64_in _ (by omega)
          have i7 : (0 : Int) ≤ (m : Int) := by omega
          have i8 : (m : Int) < (m : Int) + 1 := by omega
          have i9 : ((m : Int) + 1 == 0) = false := by simp; omega
          clear hd hsame hsl hrow hlast hy
          go_wp2_with fail
          go_quiet (fail)
          go_wp2_with (first | (at_builtin; refine wpl_app_int rfl (.tmp 32) (.tmp 35) rfl (w.heap.size + 1) (m + 1) (m + 2) (.slice _ (m + 1) _) acc rfl ((owns_drewN (HOWN.out.alloc _) _).alloc _) HN.out ⟨wr.heap.size + 1, 0, none⟩ 1 1 [e] rfl rfl (cells_new_at _ e _ _ (by simp)) rfl (by omega) (by simp; omega) ?_) | (at_builtin; fail))
          intro a6 cp6 w6 hown6 hf6 _
          have G6 := hf6 (w.alloc (.cells #[.slice (some ⟨b, o, none⟩) l.length cap] 25)) (by simp) (((HF.out.alloc _).drewN _).alloc _)
          clear hf6
          go_wp2_with fail
          go_roundg (row.length - (k + 1))
          case rel => exact ⟨k + 1, (m + 2), acc ++ [e], _, _, rfl, by omega, by go_num, rfl, HLEN.out, by omega, HD.out, hown6, G6⟩
          case measure => omega
    · have i5 : ¬ (k : Int) < (row.length : Int) := by omega
      have HR : Hid (acc = evs row) := Lib.hid (by rw [← hd, List.drop_eq_nil_of_le (by omega)]; rfl)
      clear hd
      go_wp2_with fail
      go_ret
      rw [← HR.out, HN.out]
      exact ⟨a', cp, rfl, by rw [OwnI, HN.out]; exact ownsB_mono HOWN.out (by omega), f0.trans HF.out (by simp)⟩

end Go.Proofs.Ytknfdpkfomlckaa
