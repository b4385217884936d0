/- The reference's disk: contract of without. -/
import Derived.Test.YtkebdgbjgbcneaaE5
namespace Go.Proofs.Ytkebdgbjgbcneaa
open Go.RowKit Go.Maps Go.Shelf

theorem without_take {l : Dir} {k : Nat} {p : Nm × Nat} (hp : l[k]? = some p) (s : Nm) : withoutD (l.take (k + 1)) s = withoutD (l.take k) s ++ (if (p.1 == s) = true then [] else [p]) := by
  rw [withoutD, List.take_add_one, hp, List.filter_append]
  simp only [Option.toList_some, withoutD]
  congr 1
  by_cases h : (p.1 == s) = true
  · simp [h]
  · simp [h]
def DirEnd (B : Nat) (l : Dir) (w' : World) (e : Ending) : Prop := ∃ a c, e = .returned (.slice a l.length c) ∧ w'.ownsRow B 96 2 (.slice a l.length c) l.length (dirC l)
set_option linter.unusedSimpArgs false in
set_option maxRecDepth 100000 in
set_option maxHeartbeats 1000000 in
theorem rwithout_any {w : World} {F : List Nat} {v : Value} {l : Dir} (h : RowV w F v l.length 2 (dirC l)) (hl : l.length ≤ 1000) (s : Nm) :
    Calls Try.prog 76 #[v, str s] w fun e w' => DirEnd w.heap.size (withoutD l s) w' e ∧ Frm [] w w' := by
  obtain ⟨_, a, c, rfl, hlc, hcm, _, hcell⟩ := h
  have i1 : (l.length : Int) ≤ (c : Int) := by omega
  have i2 : (c : Int) ≤ 9223372036854775807 := by unfold maxLen at hcm; omega
  have HC := Lib.hid hcell
  have HL := Lib.hid hl
  clear hcell hlc hcm hl
  go_enter Try.func76, Try.ntmps76
  go_wp2_with fail
  go_loopg [5, 6] l.length (fun q s5 s6 wr => ∃ (k N : Nat) (out : Dir) (a5 : Option Addr) (c5 : Nat), q = l.length - k ∧ k ≤ l.length ∧ s6 = .int .i64 (k : Int) ∧ s5 = .slice a5 N c5 ∧ out = withoutD (l.take k) s ∧ out.length = N ∧ N ≤ k ∧ wr.ownsRow w.heap.size 96 2 (.slice a5 N c5) N (dirC out) ∧ Frm [] w wr)
  case atStart => exact ⟨0, 0, [], none, 0, rfl, Nat.zero_le _, rfl, rfl, rfl, rfl, Nat.le_refl _, World.ownsRow_nil _ _ _ _, Frm.refl _ _⟩
  case round =>
    obtain ⟨k, N, out, a5, c5, rfl, hk, rfl, rfl, hout, hN, hNk, hown, hF⟩ := hrel
    have HF := Lib.hid hF
    have HOUT := Lib.hid hout
    have HN := Lib.hid hN
    have HOW := Lib.hid hown
    have hszr := hF.size
    have i4 : (0 : Int) ≤ (k : Int) := by omega
    have hl9 := HL.out
    clear hF hout hN hown
    by_cases hlt : k < l.length
    · have i5 : (k : Int) < (l.length : Int) := by omega
      obtain ⟨p, hp⟩ : ∃ p, l[k]? = some p := ⟨_, List.getElem?_eq_getElem hlt⟩
      obtain ⟨g0, g1⟩ := dirC_get hp
      obtain ⟨b, o, rfl, _, _, c0⟩ := HC.out _ _ g0
      obtain ⟨b', o', e', _, _, c1⟩ := HC.out _ _ g1
      simp only [Option.some.injEq, Addr.mk.injEq, and_true] at e'
      obtain ⟨rfl, rfl⟩ := e'
      have d0 := HF.out.cell c0 (by simp)
      have d1 := HF.out.cell c1 (by simp)
      rw [← Nat.add_assoc] at d1
      have HTK := Lib.hid (without_take hp s)
      clear hp g0 g1 c0 c1
      cases hb : (p.1 == s) with
      | true =>
        have HR : Hid (withoutD (l.take (k + 1)) s = withoutD (l.take k) s) := Lib.hid (by rw [HTK.out, if_pos hb, List.append_nil])
        go_wp2_with fail
        go_roundg (l.length - (k + 1))
        case rel => exact ⟨k + 1, N, out, a5, c5, rfl, hlt, by go_num, rfl, by rw [HR.out]; exact HOUT.out, HN.out, by omega, HOW.out, HF.out⟩
        case measure => omega
      | false =>
        have HR : Hid (withoutD (l.take (k + 1)) s = withoutD (l.take k) s ++ [p]) := Lib.hid (by rw [HTK.out, if_neg (by rw [hb]; simp)])
        have HAL := Lib.hid (RowAt.made wr 96 [str p.1, .int .i64 (p.2 : Int)] #[str p.1, .int .i64 (p.2 : Int)] rfl)
        go_wp2_with (first | (at_builtin; refine app_name rfl _ _ rfl w.heap.size N (.slice a5 N c5) out rfl (HOW.out.alloc _) wr.heap.size p rfl HAL.out (by omega) (by simp; omega) ?_; intro a9 c9 w9 hown9 hf9 hloc9) | fail)
        have HF9 : Hid (Frm [] w w9) := Lib.hid ((HF.out.alloc _).trans hf9 (fun x hx => .inr (HOW.out.lt x (by simpa using hx)).1))
        have HO9 := Lib.hid hown9
        clear hown9 hf9 hloc9
        go_wp2_with fail
        go_roundg (l.length - (k + 1))
        case rel => exact ⟨k + 1, N + 1, out ++ [p], a9, c9, rfl, hlt, by go_num, rfl, by rw [HR.out, HOUT.out], by rw [List.length_append, HN.out]; rfl, by omega, HO9.out, HF9.out⟩
        case measure => omega
    · have i5 : ¬ (k : Int) < (l.length : Int) := by omega
      have HR : Hid (out = withoutD l s) := Lib.hid (by rw [HOUT.out, List.take_of_length_le (by omega)])
      go_wp2_with fail
      go_ret
      refine ⟨⟨a5, c5, ?_, ?_⟩, HF.out⟩
      · rw [← HR.out, HN.out]; rfl
      · rw [← HR.out, HN.out]; exact HOW.out

end Go.Proofs.Ytkebdgbjgbcneaa
