/- The reference's Permits and Find. -/
import Derived.Test.YtikpcipkkhmcfaaGreatQ07
import Derived.Test.YtikpcipkkhmcfaaGreatQ08
namespace Go.Proofs.YtikpcipkkhmcfaaGreat.Beh
open Go.RowKit Go.Lib Go.Proofs.YtikpcipkkhmcfaaGreat Go.Proofs.YtikpcipkkhmcfaaGreat.Ind

/-- What Find hands back: the entry and that it is there, or nothing. -/
def FindEnd (F : List Nat) (b : List En) (t : List Int) (w : World) (e : Ending) (w' : World) : Prop :=
 (match findE b t with
 | some x => ∃ ta tc la lc, e = .returned (.tuple #[.agg #[.slice ta x.1.length tc, .slice la x.2.1.length lc, .bool x.2.2], .bool true]) ∧ RowV w' F (.slice ta x.1.length tc) x.1.length 1 (ints x.1) ∧ SetsAt w' F (.slice la x.2.1.length lc) x.2.1
 | none => e = .returned (.tuple #[.agg #[.slice none 0 0, .slice none 0 0, .bool false], .bool false])) ∧ Frm [] w w'
set_option linter.unusedSimpArgs false in
set_option maxRecDepth 100000 in
set_option maxHeartbeats 4000000 in
theorem refFind_any {F G : List Nat} (w : World) (v u : Value) (b : List En) (t : List Int) (h1 : BehAt w F v b) (h2 : RowV w G u t.length 1 (ints t)) :
  Calls Tryz.prog 41 #[v, u] w (FindEnd F b t w) := by
 have f1 := beh_few h1
 obtain ⟨va, vc, rfl⟩ := h1.shape
 obtain ⟨ua, uc, rfl⟩ := RowV.shape h2
 have H1 := Lib.hid h1
 have H2 := Lib.hid h2
 clear h1 h2
 go_enter Tryz.func41, Tryz.ntmps41
 go_wp2_with fail
 obtain ⟨V, hV⟩ : ∃ V, V = w.alloc (.cells #[.slice none 0 0, .slice none 0 0, .bool false] 69) := ⟨_, rfl⟩
 have S0 : Hid (Sep w V [boxC w.heap.size 69 [.slice none 0 0, .slice none 0 0, .bool false]]) := Lib.hid (by
  rw [hV]
  exact (Sep.start w).add (boxC w.heap.size 69 [.slice none 0 0, .slice none 0 0, .bool false]) ((Frm.refl [] w).alloc _) (RowAt.made w 69 _ #[.slice none 0 0, .slice none 0 0, .bool false] rfl) (by simp [boxC]))
 rw [← hV]
 clear hV
 go_loopg [6] b.length (fun q t6 wr => ∃ (k : Nat), q = b.length - k ∧ k ≤ b.length ∧ t6 = .int .i64 k ∧ findE (b.drop k) t = findE b t ∧ Sep w wr [boxC w.heap.size 69 [.slice none 0 0, .slice none 0 0, .bool false]])
 case atStart => exact ⟨0, rfl, Nat.zero_le _, rfl, rfl, S0.out⟩
 case round =>
  clear S0
  obtain ⟨k, hq, hk, rfl, hd, hs⟩ := hrel
  have HQ := Lib.hid hq
  have S := Lib.hid hs
  have i4 : (0 : Int) ≤ (k : Int) := by omega
  clear hq hs
  have r0 := (show RowAt wr w.heap.size 69 [.slice none 0 0, .slice none 0 0, .bool false] from S.out.at_ 0 rfl)
  have c0 := r0.cell (i := 0) rfl
  have c1 := r0.cell (i := 1) rfl
  have c2 := r0.cell (i := 2) rfl
  have z0 := r0.frozen 0
  have z1 := r0.frozen 1
  have z2 := r0.frozen 2
  clear r0
  by_cases hlt : k < b.length
  ·have i5 : (k : Int) < (b.length : Int) := by omega
   obtain ⟨x, hx⟩ : ∃ x, b[k]? = some x := ⟨_, List.getElem?_eq_getElem hlt⟩
   obtain ⟨b1, o1, d1, ta, tc, la, lc, e1, x0, x1, x2, xt, xl⟩ := H1.out.at_ hx
   obtain ⟨rfl, rfl⟩ : va = some ⟨b1, o1, none⟩ ∧ vc = d1 := by simpa using e1
   have y0 := S.out.frm.cell x0 (by simp)
   have y1 := S.out.frm.cell x1 (by simp)
   have y2 := S.out.frm.cell x2 (by simp)
   rw [← Nat.add_assoc] at y1 y2
   have hcall := Go.Proofs.YtikpcipkkhmcfaaGreat.ints_same wr.heap.size ta ua tc uc x.1 t wr (xt.nil S.out.frm).rd (H2.out.nil S.out.frm).rd
   have HXT := Lib.hid xt
   have HXL := Lib.hid xl
   rw [drop_cons hx] at hd
   unfold findE at hd
   rw [List.find?_cons] at hd
   clear x0 x1 x2 xt xl hx e1
   by_cases hxt : x.1 = t
   ·have hdx : findE b t = some x := by
     unfold findE
     rw [← hd, decide_eq_true hxt]
    rw [decide_eq_true hxt] at hcall
    have HC := Lib.hid hcall
    have HD := Lib.hid hdx
    clear hcall hd hxt hdx
    go_wp2_with (go_at_call 34; refine HC.out.mono ?_; rintro e5 w5 ⟨rfl, hf5⟩; have S5 := Lib.hid (S.out.nil hf5); have q0 := hf5.cell y0 (by simp); have q1 := hf5.cell y1 (by simp); have q2 := hf5.cell y2 (by simp); have p0 := hf5.cell c0 (by simp); have p1 := hf5.cell c1 (by simp); have p2 := hf5.cell c2 (by simp); have r5 := (show RowAt w5 w.heap.size 69 [.slice none 0 0, .slice none 0 0, .bool false] from S5.out.at_ 0 rfl); have w0 := r5.frozen 0; have w1 := r5.frozen 1; have w2 := r5.frozen 2; clear r5)
    have SP := ((S5.out.putBox 0 rfl 0 (.slice ta x.1.length tc)).putBox 0 rfl 1 (.slice la x.2.1.length lc)).putBox 0 rfl 2 (.bool x.2.2)
    simp only [List.set_cons_zero, List.set_cons_succ] at SP
    clear hf5
    generalize World.setCell (World.setCell (World.setCell _ _ _) _ _) _ _ = W9 at *
    have rr : RowAt W9 w.heap.size 69 [.slice ta x.1.length tc, .slice la x.2.1.length lc, .bool x.2.2] := SP.at_ 0 rfl
    have e0 := rr.cell (i := 0) rfl
    have e1 := rr.cell (i := 1) rfl
    have e2 := rr.cell (i := 2) rfl
    refine bodyPost_ret (v := .tuple #[.agg #[.slice ta x.1.length tc, .slice la x.2.1.length lc, .bool x.2.2], .bool true]) (by simp [results, Tryz.results41, go_sem, e0, e1, e2]) rfl ?_
    refine ⟨?_, SP.frm⟩
    rw [HD.out]
    exact ⟨ta, tc, la, lc, rfl, HXT.out.nil SP.frm, HXL.out.nil SP.frm⟩
   ·have hdx : findE (b.drop (k + 1)) t = findE b t := by
     rw [decide_eq_false hxt] at hd
     exact hd
    rw [decide_eq_false hxt] at hcall
    have HC := Lib.hid hcall
    have HD := Lib.hid hdx
    clear hcall hd hxt hdx
    go_wp2_with (go_at_call 34; refine HC.out.mono ?_; rintro e5 w5 ⟨rfl, hf5⟩)
    go_roundg (b.length - (k + 1))
    case rel => exact ⟨k + 1, rfl, by omega, by go_num, HD.out, S.out.nil hf5⟩
    case measure => have := HQ.out; omega
  ·have i5 : ¬ (k : Int) < (b.length : Int) := by omega
   have HD : Hid (findE b t = none) := Lib.hid (by rw [← hd, List.drop_eq_nil_of_le (by omega)]; rfl)
   clear hd
   go_wp2_with fail
   have SP := ((S.out.putBox 0 rfl 0 (.slice none 0 0)).putBox 0 rfl 1 (.slice none 0 0)).putBox 0 rfl 2 (.bool false)
   simp only [List.set_cons_zero, List.set_cons_succ] at SP
   generalize World.setCell (World.setCell (World.setCell _ _ _) _ _) _ _ = W9 at *
   have rr : RowAt W9 w.heap.size 69 [.slice none 0 0, .slice none 0 0, .bool false] := SP.at_ 0 rfl
   have e0 := rr.cell (i := 0) rfl
   have e1 := rr.cell (i := 1) rfl
   have e2 := rr.cell (i := 2) rfl
   refine bodyPost_ret (v := .tuple #[.agg #[.slice none 0 0, .slice none 0 0, .bool false], .bool false]) (by simp [results, Tryz.results41, go_sem, e0, e1, e2]) rfl ?_
   refine ⟨?_, SP.frm⟩
   rw [HD.out]
end Go.Proofs.YtikpcipkkhmcfaaGreat.Beh
