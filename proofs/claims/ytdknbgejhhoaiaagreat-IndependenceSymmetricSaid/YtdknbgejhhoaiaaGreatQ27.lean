/- Contract of arc: an arc drawn from the tape. -/
import Derived.Test.YtdknbgejhhoaiaaGreatQ04
import Derived.Test.YtdknbgejhhoaiaaGreatQ05
import Derived.Deep.RegionHeld3
import Derived.Deep.DeepCutAuto
/- A struct of the call's own beside a tape: its cells through draws and stores. -/
namespace Go.Proofs.YtdknbgejhhoaiaaGreat.Ind
open Go.RowKit

/-- Beside tape tb, from which N numbers have been drawn at most, lies a struct at block g, made after w0. -/
structure Bx (B tb N : Nat) (w0 w : World) (t : TypeId) (g : Nat) (cs : List Value) : Prop where
  row : RowAt w g t cs
  frm : Frm [tb] w0 w
  tape : TapeOk B w tb N
  le : B ≤ tb
  lt : tb < w0.heap.size
  fresh : w0.heap.size ≤ g
section
variable {B tb N g : Nat} {w0 w w' : World} {t : TypeId} {cs : List Value}
theorem Bx.next (h : Bx B tb N w0 w t g cs) (ht : TapeOk B w' tb (N + 1)) (hf : Frm [tb] w w') : Bx B tb (N + 1) w0 w' t g cs :=
  ⟨h.row.frm hf (by have := h.lt; have := h.fresh; simp; omega), h.frm.trans hf (fun x hx => .inl hx), ht, h.le, h.lt, h.fresh⟩
theorem Bx.step {M : Nat} (h : Bx B tb N w0 w t g cs) (ht : TapeOk B w' tb M) (hf : Frm [tb] w w') : Bx B tb M w0 w' t g cs :=
  ⟨h.row.frm hf (by have := h.lt; have := h.fresh; simp; omega), h.frm.trans hf (fun x hx => .inl hx), ht, h.le, h.lt, h.fresh⟩
theorem Bx.nil (h : Bx B tb N w0 w t g cs) (hf : Frm [] w w') : Bx B tb N w0 w' t g cs :=
  ⟨h.row.frm hf (by simp), h.frm.trans hf (by simp), h.tape.nil hf, h.le, h.lt, h.fresh⟩
theorem Bx.set (h : Bx B tb N w0 w t g cs) (i : Nat) (u : Value) : Bx B tb N w0 (w.setCell ⟨g, i, none⟩ u) t g (cs.set i u) := by
  have h1 := h.lt
  have h2 := h.fresh
  have h3 := h.le
  have hf : Frm [g] w (w.setCell ⟨g, i, none⟩ u) := (Frm.refl _ _).setCell (.inl (by simp)) _
  exact ⟨h.row.setCell i u, h.frm.trans hf (fun x hx => .inr (by simp at hx; omega)), h.tape.frm hf (by simp; omega) (by simp; omega), h.le, h.lt, h.fresh⟩
theorem Bx.own (h : Bx B tb N w0 w t g cs) {G : Nat} (hf : Frm [G] w w') (hG : w0.heap.size ≤ G) (hg : G ≠ g) : Bx B tb N w0 w' t g cs :=
  ⟨h.row.frm hf (by simp; omega), h.frm.trans hf (fun x hx => .inr (by simp at hx; omega)), h.tape.frm hf (by have := h.lt; have := h.le; simp; omega) (by have := h.lt; simp; omega), h.le, h.lt, h.fresh⟩
theorem Bx.new (ht : TapeOk B w tb N) (hf : Frm [tb] w0 w) (hB : B ≤ tb) (hl : tb < w0.heap.size) (A : Array Value) (hA : A.toList.take cs.length = cs) : Bx B tb N w0 (w.alloc (.cells A t)) t w.heap.size cs :=
  ⟨RowAt.made w t cs A hA, hf.alloc _, ht.nil ((Frm.refl [] w).alloc _), hB, hl, hf.size⟩
end

theorem asc_app : ∀ {l : List Int} {x : Int}, ascB l = true → (∀ y ∈ l, y < x) → ascB (l ++ [x]) = true
  | [], x, _, _ => rfl
  | [a], x, _, h => by
    have h1 := h a (by simp)
    simp [ascB, h1]
  | a :: b :: r, x, h, hl => by
    simp only [ascB, Bool.and_eq_true] at h
    have ih := asc_app (l := b :: r) (x := x) h.2 (fun y hy => hl y (List.mem_cons_of_mem _ hy))
    simp only [List.cons_append, ascB, Bool.and_eq_true]
    exact ⟨h.1, ih⟩
theorem asc_snoc (i : Int) (h0 : 0 ≤ i) {l : List Int} (h : notB i l = true) : notB (i + 1) (l ++ [i]) = true := by
  simp only [notB, Bool.and_eq_true, List.all_eq_true, belowB, decide_eq_true_eq, List.mem_append, List.mem_singleton] at h ⊢
  refine ⟨fun x hx => ?_, asc_app h.2 (fun y hy => (h.1 y hy).2)⟩
  rcases hx with hx | rfl
  · have := h.1 x hx; omega
  · omega
theorem not_mono {i j : Int} (h0 : i ≤ j) {l : List Int} (h : notB i l = true) : notB j l = true := by
  simp only [notB, Bool.and_eq_true, List.all_eq_true, belowB, decide_eq_true_eq] at h ⊢
  exact ⟨fun x hx => by have := h.1 x hx; omega, h.2⟩
end Go.Proofs.YtdknbgejhhoaiaaGreat.Ind
namespace Go.Proofs.YtdknbgejhhoaiaaGreat.Ind
open Go.Shelf Go.RowKit Go.Lib

def aZero : Array Value := #[.int .i64 0, .int .i64 0, .int .i64 0, .int .i64 0, .slice none 0 0, .int .i64 0]
/-- What arc answers: a valid arc of a machine with r registers, two data channels, one plain one, s states. -/
def ArcEnd (B tb N : Nat) (w : World) (r s : Nat) (e : Ending) (w' : World) : Prop :=
  ∃ va a, e = .returned (arcV va a) ∧ (∀ F : List Nat, (∀ k ∈ F, k < w.heap.size) → NotAt w' F va a) ∧ (∀ st : List (List RA), st.length = s → arcB ⟨r, 2, 1, st⟩ a = true) ∧ TapeOk B w' tb (N + 10) ∧ Frm [tb] w w'
/-- The arc under way at block g, beside the cell of the result. -/
structure ASt (B tb N : Nat) (w wi : World) (g : Nat) (cs : List Value) : Prop where
  bx : Bx B tb N w wi 47 g cs
  res : RowAt wi w.heap.size 47 aZero.toList
  lt : w.heap.size < g
section
variable {B tb N g : Nat} {w wi w' : World} {cs : List Value}
theorem ASt.next (h : ASt B tb N w wi g cs) (ht : TapeOk B w' tb (N + 1)) (hf : Frm [tb] wi w') : ASt B tb (N + 1) w w' g cs :=
  ⟨h.bx.next ht hf, h.res.frm hf (by have := h.bx.lt; simp; omega), h.lt⟩
theorem ASt.set (h : ASt B tb N w wi g cs) (i : Nat) (u : Value) : ASt B tb N w (wi.setCell ⟨g, i, none⟩ u) g (cs.set i u) :=
  ⟨h.bx.set i u, h.res.other u (by have := h.lt; simp; omega), h.lt⟩
theorem ASt.new (ht : TapeOk B wi tb N) (hf : Frm [tb] (w.alloc (.cells aZero 47)) wi) (hB : B ≤ tb) (hl : tb < w.heap.size) (A : Array Value) (hA : A.toList.take cs.length = cs) : ASt B tb N w (wi.alloc (.cells A 47)) wi.heap.size cs :=
  ⟨Bx.new ht (((Frm.refl [tb] w).alloc _).trans hf (fun x hx => .inl hx)) hB hl A hA, (RowAt.frm (RowAt.made w 47 aZero.toList aZero rfl) hf (by simp; omega)).alloc _, by have := hf.size; simp at this; omega⟩
theorem ASt.own {fp : List Nat} (h : ASt B tb N w wi g cs) (hf : Frm fp wi w') (hfp : ∀ k ∈ fp, g < k) : ASt B tb N w w' g cs :=
  ⟨⟨h.bx.row.frm hf (fun hm => by have := hfp _ hm; omega), h.bx.frm.trans hf (fun x hx => .inr (by have := hfp _ hx; have := h.bx.fresh; omega)), h.bx.tape.frm hf (fun k hk => by have := hfp _ hk; have := h.bx.fresh; have := h.bx.lt; have := h.bx.le; omega) (fun hm => by have := hfp _ hm; have := h.bx.fresh; have := h.bx.lt; omega), h.bx.le, h.bx.lt, h.bx.fresh⟩, h.res.frm hf (fun hm => by have := hfp _ hm; have := h.lt; omega), h.lt⟩
theorem ASt.nil (h : ASt B tb N w wi g cs) (hf : Frm [] wi w') : ASt B tb N w w' g cs := ⟨h.bx.nil hf, h.res.frm hf (by simp), h.lt⟩
def outW (w wi : World) (u0 u1 u2 u3 u4 u5 : Value) : World := (((((wi.setCell ⟨w.heap.size, 0, none⟩ u0).setCell ⟨w.heap.size, 1, none⟩ u1).setCell ⟨w.heap.size, 2, none⟩ u2).setCell ⟨w.heap.size, 3, none⟩ u3).setCell ⟨w.heap.size, 4, none⟩ u4).setCell ⟨w.heap.size, 5, none⟩ u5
theorem ASt.out {u0 u1 u2 u3 u4 u5 : Value} (h : ASt B tb N w wi g [u0, u1, u2, u3, u4, u5]) : RowAt (outW w wi u0 u1 u2 u3 u4 u5) w.heap.size 47 [u0, u1, u2, u3, u4, u5] ∧ Frm [w.heap.size] wi (outW w wi u0 u1 u2 u3 u4 u5) :=
  ⟨(((((h.res.setCell 0 u0).setCell 1 u1).setCell 2 u2).setCell 3 u3).setCell 4 u4).setCell 5 u5,
   ((((((Frm.refl _ wi).setCell (.inl (by simp)) _).setCell (.inl (by simp)) _).setCell (.inl (by simp)) _).setCell (.inl (by simp)) _).setCell (.inl (by simp)) _).setCell (.inl (by simp)) _⟩
theorem ASt.fin {r s : Nat} {a : RA} {va : Value} {M : Nat} (h : ASt B tb M w wi g [.int .i64 a.kind, .int .i64 a.ch, .int .i64 a.reg, .int .i64 a.frm, va, .int .i64 a.to]) (hM : M ≤ N + 10) (hn : ∀ F : List Nat, (∀ k ∈ F, k ≤ w.heap.size) → NotAt wi F va a) (ha : ∀ st : List (List RA), st.length = s → arcB ⟨r, 2, 1, st⟩ a = true) :
    ArcEnd B tb N w r s (.returned (arcV va a)) (outW w wi (.int .i64 a.kind) (.int .i64 a.ch) (.int .i64 a.reg) (.int .i64 a.frm) va (.int .i64 a.to)) := by
  have hf := h.out.2
  have h1 := h.bx.lt
  have h2 := h.bx.le
  exact ⟨va, a, rfl, fun F hF => RowV.step (hn (w.heap.size :: F) (fun k hk => by rcases List.mem_cons.1 hk with rfl | hk; exact Nat.le_refl _; exact Nat.le_of_lt (hF k hk))) hf (fun k hk => .inl (by simp at hk; simp [hk])) (fun k hk => .inl (List.mem_cons_of_mem _ hk)), ha, (h.bx.tape.frm hf (by simp; omega) (by simp; omega)).mono hM, h.bx.frm.trans hf (fun x hx => .inr (by simp at hx; omega))⟩
end
set_option linter.unusedSimpArgs false in
set_option maxRecDepth 100000 in
set_option maxHeartbeats 8000000 in
theorem arc_any (B tb N r s : Nat) (norm : Bool) (w : World) (h : TapeOk B w tb N) (hB : B ≤ tb) (hN : N ≤ 900000000) (hr : r ≤ 4) (hs : 1 ≤ s) (hs2 : s ≤ 64) :
    Calls Tryz.prog 16 #[.pointer (some ⟨tb, 0, none⟩), .int .i64 r, .int .i64 s, .bool norm] w (ArcEnd B tb N w r s) := by
  have hlt := h.lt
  have HT0 := Lib.hid (h.nil ((Frm.refl [] w).alloc (.cells aZero 47)))
  have HF0 := Lib.hid ((Frm.refl [tb] w).alloc (.cells aZero 47))
  have n1 := next_any B tb N s _ HT0.out hB (by omega) (by omega)
  unfold aZero at n1
  clear h
  cases norm
  · by_cases hr9 : r = 0
    · subst hr9
      clear hr
      rw [show ((0 : Nat) : Int) = 0 from rfl]
      go_enter Tryz.func16, Tryz.ntmps16
      go_wp2_with fail
      refine n1.mono ?_
      rintro e1 w1 ⟨⟨x, rfl, hx, -⟩, hT1, hf1⟩
      have hA1 : ASt B tb (N + 1) w (w1.alloc (.cells #[.int .i64 0, .int .i64 0, .int .i64 0, .int .i64 0, .slice none 0 0, .int .i64 x] 47)) w1.heap.size [.int .i64 0, .int .i64 0, .int .i64 0, .int .i64 0, .slice none 0 0, .int .i64 x] := ASt.new hT1 hf1 hB hlt _ rfl
      clear hT1 hf1
      go_wp2_with fail
      generalize w1.alloc (.cells #[.int .i64 0, .int .i64 0, .int .i64 0, .int .i64 0, .slice none 0 0, .int .i64 x] 47) = W1 at *
      generalize w1.heap.size = g at *
      refine (next_any B tb (N + 1) 4 W1 hA1.bx.tape hB (by omega) (by omega)).mono ?_
      rintro e2 w2 ⟨⟨d, rfl, hd, -⟩, hT2, hf2⟩
      have hA2 := hA1.next hT2 hf2
      clear hA1 hT2 hf2 HT0 HF0 n1
      have hd' : d = 0 ∨ d = 1 ∨ d = 2 ∨ d = 3 := by omega
      rcases hd' with rfl | rfl | rfl | rfl
      · skip
        go_wp2_with fail
        refine (next_any B tb (N + 2) 2 _ hA2.bx.tape hB (by omega) (by omega)).mono ?_
        rintro e9 w9 ⟨⟨u, rfl, hu, -⟩, hT9, hf9⟩
        have hA4 := hA2.next hT9 hf9
        clear hT9 hf9
        go_wp2_with fail
        refine (next_any B tb (N + 3) 1 _ hA4.bx.tape hB (by omega) (by omega)).mono ?_
        rintro e9 w9 ⟨⟨v, rfl, hv, -⟩, hT9, hf9⟩
        have hA6 := hA4.next hT9 hf9
        clear hT9 hf9
        have hv1 : 0 ≤ v := by omega
        have hv2 : v ≤ 4 := by omega
        have c0 := hA6.bx.row.cell (i := 0) rfl
        have z0 := hA6.bx.row.frozen 0
        have c1 := hA6.bx.row.cell (i := 1) rfl
        have z1 := hA6.bx.row.frozen 1
        have c2 := hA6.bx.row.cell (i := 2) rfl
        have z2 := hA6.bx.row.frozen 2
        go_wp2_with fail
        clear c0 z0 c1 z1 c2 z2
        have hA7 := ((hA6.set 0 (.int .i64 4)).set 1 (.int .i64 u)).set 2 (.int .i64 (v - 1))
        obtain ⟨W0, hW0⟩ : ∃ W0, W0 = ((w9.setCell ⟨g, 0, none⟩ (.int .i64 4)).setCell ⟨g, 1, none⟩ (.int .i64 u)).setCell ⟨g, 2, none⟩ (.int .i64 (v - 1)) := ⟨_, rfl⟩
        simp only [List.set_cons_succ, List.set_cons_zero] at hA7
        rw [← hW0] at hA7 ⊢
        clear hW0 hA6 hA4
        go_loopg [11] 0 (fun q i wr => ∃ (k : Nat) (l : List Int) (va : Value), q = 0 - k ∧ k ≤ 0 ∧ i = .int .i64 k ∧ l.length ≤ k ∧ notB k l = true ∧ wr.ownsRow (g + 1) 3 1 va l.length (ints l) ∧ ASt B tb (N + 4 + k) w wr g [.int .i64 4, .int .i64 u, .int .i64 (v - 1), .int .i64 0, va, .int .i64 x])
        case atStart => exact ⟨0, [], .slice none 0 0, rfl, Nat.zero_le _, rfl, Nat.le_refl _, rfl, ⟨rfl, .inl ⟨rfl, rfl⟩⟩, hA7⟩
        case round =>
          obtain ⟨k, l, va, hq, hk, rfl, hlk, hnb, hown, hA⟩ := hrel
          have i4 : (0 : Int) ≤ (k : Int) := by omega
          have HQ := Lib.hid hq
          clear hq
          by_cases hlt : k < 0
          · have i5 : (k : Int) < (0 : Int) := by omega
            exact absurd hlt (Nat.not_lt_zero _)
          · have i5 : ¬ (k : Int) < (0 : Int) := by omega
            have hkr : k = 0 := by omega
            have hnb2 : notB 0 l = true := by rw [hkr] at hnb; exact hnb
            obtain ⟨va1, va2, rfl, _⟩ := owns_shape (ownsB_mono hown (Nat.zero_le _))
            have HKR := Lib.hid hkr
            have HNT : Hid (∀ F : List Nat, (∀ k ∈ F, k ≤ w.heap.size) → NotAt wr F (.slice va1 l.length va2) ⟨4, u, v - 1, 0, l, x⟩) := Lib.hid (fun F hF => rowV_of_owns hown (fun b hb e => by have := (hown.lt b e).1; have := hF b hb; have := hA.lt; omega))
            clear hkr hown
            have c0 := hA.bx.row.cell (i := 0) rfl
            have c1 := hA.bx.row.cell (i := 1) rfl
            have c2 := hA.bx.row.cell (i := 2) rfl
            have c3 := hA.bx.row.cell (i := 3) rfl
            have c4 := hA.bx.row.cell (i := 4) rfl
            have c5 := hA.bx.row.cell (i := 5) rfl
            have z0 := hA.bx.row.frozen 0
            have z1 := hA.bx.row.frozen 1
            have z2 := hA.bx.row.frozen 2
            have z3 := hA.bx.row.frozen 3
            have z4 := hA.bx.row.frozen 4
            have z5 := hA.bx.row.frozen 5
            have d0 := hA.res.cell (i := 0) rfl
            have d1 := hA.res.cell (i := 1) rfl
            have d2 := hA.res.cell (i := 2) rfl
            have d3 := hA.res.cell (i := 3) rfl
            have d4 := hA.res.cell (i := 4) rfl
            have d5 := hA.res.cell (i := 5) rfl
            have y0 := hA.res.frozen 0
            have y1 := hA.res.frozen 1
            have y2 := hA.res.frozen 2
            have y3 := hA.res.frozen 3
            have y4 := hA.res.frozen 4
            have y5 := hA.res.frozen 5
            have hgl := hA.lt
            have hgn : ¬ g = w.heap.size := by omega
            have hgm : ¬ w.heap.size = g := by omega
            go_wp2_with fail
            have hkr := HKR.out
            have ho := hA.out.1
            have hfin := ASt.fin (N := N) (r := 0) (s := s) (a := ⟨4, u, v - 1, 0, l, x⟩) hA (by omega) (HNT.out) (fun st hst => by simp [arcB, belowB, restB, hst, hnb2] <;> omega)
            generalize hW6 : outW _ _ _ _ _ _ _ _ = W6 at ho hfin
            unfold outW at hW6
            rw [hW6]
            have e0 := ho.cell (i := 0) rfl
            have e1 := ho.cell (i := 1) rfl
            have e2 := ho.cell (i := 2) rfl
            have e3 := ho.cell (i := 3) rfl
            have e4 := ho.cell (i := 4) rfl
            have e5 := ho.cell (i := 5) rfl
            exact bodyPost_ret (v := arcV (.slice va1 l.length va2) ⟨4, u, v - 1, 0, l, x⟩) (by simp [results, Tryz.results16, go_sem, e0, e1, e2, e3, e4, e5, arcV]) rfl hfin
      · skip
        go_wp2_with fail
        refine (next_any B tb (N + 2) 2 _ hA2.bx.tape hB (by omega) (by omega)).mono ?_
        rintro e9 w9 ⟨⟨u, rfl, hu, -⟩, hT9, hf9⟩
        have hA4 := hA2.next hT9 hf9
        clear hT9 hf9
        go_wp2_with fail
        refine (next_any B tb (N + 3) 0 _ hA4.bx.tape hB (by omega) (by omega)).mono ?_
        rintro e9 w9 ⟨⟨v, rfl, hv, -⟩, hT9, hf9⟩
        have hA6 := hA4.next hT9 hf9
        clear hT9 hf9
        have c0 := hA6.bx.row.cell (i := 0) rfl
        have c1 := hA6.bx.row.cell (i := 1) rfl
        have c2 := hA6.bx.row.cell (i := 2) rfl
        have c3 := hA6.bx.row.cell (i := 3) rfl
        have c4 := hA6.bx.row.cell (i := 4) rfl
        have c5 := hA6.bx.row.cell (i := 5) rfl
        have z0 := hA6.bx.row.frozen 0
        have z1 := hA6.bx.row.frozen 1
        have z2 := hA6.bx.row.frozen 2
        have z3 := hA6.bx.row.frozen 3
        have z4 := hA6.bx.row.frozen 4
        have z5 := hA6.bx.row.frozen 5
        have d0 := hA6.res.cell (i := 0) rfl
        have d1 := hA6.res.cell (i := 1) rfl
        have d2 := hA6.res.cell (i := 2) rfl
        have d3 := hA6.res.cell (i := 3) rfl
        have d4 := hA6.res.cell (i := 4) rfl
        have d5 := hA6.res.cell (i := 5) rfl
        have y0 := hA6.res.frozen 0
        have y1 := hA6.res.frozen 1
        have y2 := hA6.res.frozen 2
        have y3 := hA6.res.frozen 3
        have y4 := hA6.res.frozen 4
        have y5 := hA6.res.frozen 5
        have hgl := hA6.lt
        have hgn : ¬ g = w.heap.size := by omega
        have hgm : ¬ w.heap.size = g := by omega
        go_upto_region 17 with fail
        clear c0 c1 c2 c3 c4 c5 z0 z1 z2 z3 z4 z5 d0 d1 d2 d3 d4 d5 y0 y1 y2 y3 y4 y5 hgl hgn hgm
        have hA5 := ((hA6.set 0 (.int .i64 5)).set 1 (.int .i64 u)).set 2 (.int .i64 v)
        generalize (((w9.setCell ⟨g, 0, none⟩ (.int .i64 5)).setCell ⟨g, 1, none⟩ (.int .i64 u)).setCell ⟨g, 2, none⟩ (.int .i64 v)) = w3 at *
        simp only [List.set_cons_succ, List.set_cons_zero] at hA5
        clear hA6
        have c0 := hA5.bx.row.cell (i := 0) rfl
        have c1 := hA5.bx.row.cell (i := 1) rfl
        have c2 := hA5.bx.row.cell (i := 2) rfl
        have c3 := hA5.bx.row.cell (i := 3) rfl
        have c4 := hA5.bx.row.cell (i := 4) rfl
        have c5 := hA5.bx.row.cell (i := 5) rfl
        have z0 := hA5.bx.row.frozen 0
        have z1 := hA5.bx.row.frozen 1
        have z2 := hA5.bx.row.frozen 2
        have z3 := hA5.bx.row.frozen 3
        have z4 := hA5.bx.row.frozen 4
        have z5 := hA5.bx.row.frozen 5
        have d0 := hA5.res.cell (i := 0) rfl
        have d1 := hA5.res.cell (i := 1) rfl
        have d2 := hA5.res.cell (i := 2) rfl
        have d3 := hA5.res.cell (i := 3) rfl
        have d4 := hA5.res.cell (i := 4) rfl
        have d5 := hA5.res.cell (i := 5) rfl
        have y0 := hA5.res.frozen 0
        have y1 := hA5.res.frozen 1
        have y2 := hA5.res.frozen 2
        have y3 := hA5.res.frozen 3
        have y4 := hA5.res.frozen 4
        have y5 := hA5.res.frozen 5
        have hgl := hA5.lt
        have hgn : ¬ g = w.heap.size := by omega
        have hgm : ¬ w.heap.size = g := by omega
        go_wp2_with fail
        have hA7 := ((hA5.set 0 (.int .i64 3)).set 1 (.int .i64 0)).set 2 (.int .i64 0)
        have ho := hA7.out.1
        have hfin := ASt.fin (N := N) (r := 0) (s := s) (a := ⟨3, 0, 0, 0, [], x⟩) hA7 (by omega) (fun _ _ => RowV.nil0 _ _ _) (fun st hst => by simp [arcB, belowB, restB, hst] <;> omega)
        generalize hW6 : outW _ _ _ _ _ _ _ _ = W6 at ho hfin
        unfold outW at hW6
        rw [hW6]
        have e0 := ho.cell (i := 0) rfl
        have e1 := ho.cell (i := 1) rfl
        have e2 := ho.cell (i := 2) rfl
        have e3 := ho.cell (i := 3) rfl
        have e4 := ho.cell (i := 4) rfl
        have e5 := ho.cell (i := 5) rfl
        exact bodyPost_ret (v := arcV (.slice none 0 0) ⟨3, 0, 0, 0, [], x⟩) (by simp [results, Tryz.results16, go_sem, e0, e1, e2, e3, e4, e5, arcV]) rfl hfin
      · skip
        have c0 := hA2.bx.row.cell (i := 0) rfl
        have c1 := hA2.bx.row.cell (i := 1) rfl
        have c2 := hA2.bx.row.cell (i := 2) rfl
        have c3 := hA2.bx.row.cell (i := 3) rfl
        have c4 := hA2.bx.row.cell (i := 4) rfl
        have c5 := hA2.bx.row.cell (i := 5) rfl
        have z0 := hA2.bx.row.frozen 0
        have z1 := hA2.bx.row.frozen 1
        have z2 := hA2.bx.row.frozen 2
        have z3 := hA2.bx.row.frozen 3
        have z4 := hA2.bx.row.frozen 4
        have z5 := hA2.bx.row.frozen 5
        have d0 := hA2.res.cell (i := 0) rfl
        have d1 := hA2.res.cell (i := 1) rfl
        have d2 := hA2.res.cell (i := 2) rfl
        have d3 := hA2.res.cell (i := 3) rfl
        have d4 := hA2.res.cell (i := 4) rfl
        have d5 := hA2.res.cell (i := 5) rfl
        have y0 := hA2.res.frozen 0
        have y1 := hA2.res.frozen 1
        have y2 := hA2.res.frozen 2
        have y3 := hA2.res.frozen 3
        have y4 := hA2.res.frozen 4
        have y5 := hA2.res.frozen 5
        have hgl := hA2.lt
        have hgn : ¬ g = w.heap.size := by omega
        have hgm : ¬ w.heap.size = g := by omega
        go_wp2_with fail
        have hA3 := hA2.set 0 (.int .i64 3)
        have ho := hA3.out.1
        have hfin := ASt.fin (N := N) (r := 0) (s := s) (a := ⟨3, 0, 0, 0, [], x⟩) hA3 (by omega) (fun _ _ => RowV.nil0 _ _ _) (fun st hst => by simp [arcB, belowB, restB, hst] <;> omega)
        generalize hW6 : outW _ _ _ _ _ _ _ _ = W6 at ho hfin
        unfold outW at hW6
        rw [hW6]
        have e0 := ho.cell (i := 0) rfl
        have e1 := ho.cell (i := 1) rfl
        have e2 := ho.cell (i := 2) rfl
        have e3 := ho.cell (i := 3) rfl
        have e4 := ho.cell (i := 4) rfl
        have e5 := ho.cell (i := 5) rfl
        exact bodyPost_ret (v := arcV (.slice none 0 0) ⟨3, 0, 0, 0, [], x⟩) (by simp [results, Tryz.results16, go_sem, e0, e1, e2, e3, e4, e5, arcV]) rfl hfin
      · skip
        have c0 := hA2.bx.row.cell (i := 0) rfl
        have z0 := hA2.bx.row.frozen 0
        go_wp2_with fail
        have f3 : Frm [] w2 (w2.alloc (.cells #[.int .i64 2, .int .i64 3, .int .i64 3] 3)) := (Frm.refl [] w2).alloc _
        have hA3 := hA2.nil f3
        clear f3 c0 z0
        have hq := RowAt.made w2 3 [.int .i64 2, .int .i64 3, .int .i64 3] #[.int .i64 2, .int .i64 3, .int .i64 3] rfl
        have hqg : ¬ w2.heap.size = g := by have := hA2.bx.row.lt; omega
        generalize w2.alloc (.cells #[.int .i64 2, .int .i64 3, .int .i64 3] 3) = w3 at *
        generalize hq9 : w2.heap.size = q at *
        have hqt : q ∉ [tb] := by have := hA2.bx.lt; have := hA2.bx.frm.size; simp; omega
        refine (next_any B tb (N + 2) 3 _ hA3.bx.tape hB (by omega) (by omega)).mono ?_
        rintro e9 w9 ⟨⟨j, rfl, hj, -⟩, hT9, hf9⟩
        have hA4 := hA3.next hT9 hf9
        have hq2 := hq.frm hf9 hqt
        clear hT9 hf9 hq hA3
        have q0 := hq2.cell (i := 0) rfl
        have q1 := hq2.cell (i := 1) rfl
        have q2 := hq2.cell (i := 2) rfl
        have hj' : j = 0 ∨ j = 1 ∨ j = 2 := by omega
        have c0 := hA4.bx.row.cell (i := 0) rfl
        have c1 := hA4.bx.row.cell (i := 1) rfl
        have c2 := hA4.bx.row.cell (i := 2) rfl
        have c3 := hA4.bx.row.cell (i := 3) rfl
        have c4 := hA4.bx.row.cell (i := 4) rfl
        have c5 := hA4.bx.row.cell (i := 5) rfl
        have z0 := hA4.bx.row.frozen 0
        have z1 := hA4.bx.row.frozen 1
        have z2 := hA4.bx.row.frozen 2
        have z3 := hA4.bx.row.frozen 3
        have z4 := hA4.bx.row.frozen 4
        have z5 := hA4.bx.row.frozen 5
        have d0 := hA4.res.cell (i := 0) rfl
        have d1 := hA4.res.cell (i := 1) rfl
        have d2 := hA4.res.cell (i := 2) rfl
        have d3 := hA4.res.cell (i := 3) rfl
        have d4 := hA4.res.cell (i := 4) rfl
        have d5 := hA4.res.cell (i := 5) rfl
        have y0 := hA4.res.frozen 0
        have y1 := hA4.res.frozen 1
        have y2 := hA4.res.frozen 2
        have y3 := hA4.res.frozen 3
        have y4 := hA4.res.frozen 4
        have y5 := hA4.res.frozen 5
        have hgl := hA4.lt
        have hgn : ¬ g = w.heap.size := by omega
        have hgm : ¬ w.heap.size = g := by omega
        rcases hj' with rfl | rfl | rfl
        · go_wp2_with fail
          have hA5 := hA4.set 0 (.int .i64 2)
          have ho := hA5.out.1
          have hfin := ASt.fin (N := N) (r := 0) (s := s) (a := ⟨2, 0, 0, 0, [], x⟩) hA5 (by omega) (fun _ _ => RowV.nil0 _ _ _) (fun st hst => by simp [arcB, belowB, restB, hst] <;> omega)
          generalize hW6 : outW _ _ _ _ _ _ _ _ = W6 at ho hfin
          unfold outW at hW6
          rw [hW6]
          have e0 := ho.cell (i := 0) rfl
          have e1 := ho.cell (i := 1) rfl
          have e2 := ho.cell (i := 2) rfl
          have e3 := ho.cell (i := 3) rfl
          have e4 := ho.cell (i := 4) rfl
          have e5 := ho.cell (i := 5) rfl
          exact bodyPost_ret (v := arcV (.slice none 0 0) ⟨2, 0, 0, 0, [], x⟩) (by simp [results, Tryz.results16, go_sem, e0, e1, e2, e3, e4, e5, arcV]) rfl hfin
        · go_wp2_with fail
          have hA5 := hA4.set 0 (.int .i64 3)
          have ho := hA5.out.1
          have hfin := ASt.fin (N := N) (r := 0) (s := s) (a := ⟨3, 0, 0, 0, [], x⟩) hA5 (by omega) (fun _ _ => RowV.nil0 _ _ _) (fun st hst => by simp [arcB, belowB, restB, hst] <;> omega)
          generalize hW6 : outW _ _ _ _ _ _ _ _ = W6 at ho hfin
          unfold outW at hW6
          rw [hW6]
          have e0 := ho.cell (i := 0) rfl
          have e1 := ho.cell (i := 1) rfl
          have e2 := ho.cell (i := 2) rfl
          have e3 := ho.cell (i := 3) rfl
          have e4 := ho.cell (i := 4) rfl
          have e5 := ho.cell (i := 5) rfl
          exact bodyPost_ret (v := arcV (.slice none 0 0) ⟨3, 0, 0, 0, [], x⟩) (by simp [results, Tryz.results16, go_sem, e0, e1, e2, e3, e4, e5, arcV]) rfl hfin
        · go_wp2_with fail
          have hA5 := hA4.set 0 (.int .i64 3)
          have ho := hA5.out.1
          have hfin := ASt.fin (N := N) (r := 0) (s := s) (a := ⟨3, 0, 0, 0, [], x⟩) hA5 (by omega) (fun _ _ => RowV.nil0 _ _ _) (fun st hst => by simp [arcB, belowB, restB, hst] <;> omega)
          generalize hW6 : outW _ _ _ _ _ _ _ _ = W6 at ho hfin
          unfold outW at hW6
          rw [hW6]
          have e0 := ho.cell (i := 0) rfl
          have e1 := ho.cell (i := 1) rfl
          have e2 := ho.cell (i := 2) rfl
          have e3 := ho.cell (i := 3) rfl
          have e4 := ho.cell (i := 4) rfl
          have e5 := ho.cell (i := 5) rfl
          exact bodyPost_ret (v := arcV (.slice none 0 0) ⟨3, 0, 0, 0, [], x⟩) (by simp [results, Tryz.results16, go_sem, e0, e1, e2, e3, e4, e5, arcV]) rfl hfin
    · have hr1 : ((r : Int) == 0) = false := by simpa using hr9
      have hr2 : 1 ≤ r := by omega
      go_enter Tryz.func16, Tryz.ntmps16
      go_wp2_with fail
      refine n1.mono ?_
      rintro e1 w1 ⟨⟨x, rfl, hx, -⟩, hT1, hf1⟩
      have hA1 : ASt B tb (N + 1) w (w1.alloc (.cells #[.int .i64 0, .int .i64 0, .int .i64 0, .int .i64 0, .slice none 0 0, .int .i64 x] 47)) w1.heap.size [.int .i64 0, .int .i64 0, .int .i64 0, .int .i64 0, .slice none 0 0, .int .i64 x] := ASt.new hT1 hf1 hB hlt _ rfl
      clear hT1 hf1
      go_wp2_with fail
      generalize w1.alloc (.cells #[.int .i64 0, .int .i64 0, .int .i64 0, .int .i64 0, .slice none 0 0, .int .i64 x] 47) = W1 at *
      generalize w1.heap.size = g at *
      refine (next_any B tb (N + 1) 7 W1 hA1.bx.tape hB (by omega) (by omega)).mono ?_
      rintro e2 w2 ⟨⟨d, rfl, hd, -⟩, hT2, hf2⟩
      have hA2 := hA1.next hT2 hf2
      clear hA1 hT2 hf2 HT0 HF0 n1
      have hd' : d = 0 ∨ d = 1 ∨ d = 2 ∨ d = 3 ∨ d = 4 ∨ d = 5 ∨ d = 6 := by omega
      rcases hd' with rfl | rfl | rfl | rfl | rfl | rfl | rfl
      · skip
        go_wp2_with fail
        refine (next_any B tb (N + 2) 2 _ hA2.bx.tape hB (by omega) (by omega)).mono ?_
        rintro e9 w9 ⟨⟨u, rfl, hu, -⟩, hT9, hf9⟩
        have hA4 := hA2.next hT9 hf9
        clear hT9 hf9
        go_wp2_with fail
        refine (next_any B tb (N + 3) ((r : Int) + 1) _ hA4.bx.tape hB (by omega) (by omega)).mono ?_
        rintro e9 w9 ⟨⟨v, rfl, hv, -⟩, hT9, hf9⟩
        have hA6 := hA4.next hT9 hf9
        clear hT9 hf9
        have hv1 : 0 ≤ v := by omega
        have hv2 : v ≤ 4 := by omega
        have c0 := hA6.bx.row.cell (i := 0) rfl
        have z0 := hA6.bx.row.frozen 0
        have c1 := hA6.bx.row.cell (i := 1) rfl
        have z1 := hA6.bx.row.frozen 1
        have c2 := hA6.bx.row.cell (i := 2) rfl
        have z2 := hA6.bx.row.frozen 2
        go_wp2_with fail
        clear c0 z0 c1 z1 c2 z2
        have hA7 := ((hA6.set 0 (.int .i64 4)).set 1 (.int .i64 u)).set 2 (.int .i64 (v - 1))
        obtain ⟨W0, hW0⟩ : ∃ W0, W0 = ((w9.setCell ⟨g, 0, none⟩ (.int .i64 4)).setCell ⟨g, 1, none⟩ (.int .i64 u)).setCell ⟨g, 2, none⟩ (.int .i64 (v - 1)) := ⟨_, rfl⟩
        simp only [List.set_cons_succ, List.set_cons_zero] at hA7
        rw [← hW0] at hA7 ⊢
        clear hW0 hA6 hA4
        go_loopg [11] r (fun q i wr => ∃ (k : Nat) (l : List Int) (va : Value), q = r - k ∧ k ≤ r ∧ i = .int .i64 k ∧ l.length ≤ k ∧ notB k l = true ∧ wr.ownsRow (g + 1) 3 1 va l.length (ints l) ∧ ASt B tb (N + 4 + k) w wr g [.int .i64 4, .int .i64 u, .int .i64 (v - 1), .int .i64 0, va, .int .i64 x])
        case atStart => exact ⟨0, [], .slice none 0 0, rfl, Nat.zero_le _, rfl, Nat.le_refl _, rfl, ⟨rfl, .inl ⟨rfl, rfl⟩⟩, hA7⟩
        case round =>
          obtain ⟨k, l, va, hq, hk, rfl, hlk, hnb, hown, hA⟩ := hrel
          have i4 : (0 : Int) ≤ (k : Int) := by omega
          have HQ := Lib.hid hq
          clear hq
          by_cases hlt : k < r
          · have i5 : (k : Int) < (r : Int) := by omega
            obtain ⟨va1, va2, rfl, _⟩ := owns_shape (ownsB_mono hown (Nat.zero_le _))
            go_wp2_with fail
            refine (next_any B tb (N + 4 + k) 2 _ hA.bx.tape hB (by omega) (by omega)).mono ?_
            rintro e8 w8 ⟨⟨j, rfl, hj, -⟩, hT8, hf8⟩
            have hA8 := hA.next hT8 hf8
            have hgb := hA.bx.row.lt
            have hown8 := ownsB_frm hown hf8 (fun b hb => by have := (hown.lt b hb).1; have := hA.bx.lt; have := hA.lt; simp; omega)
            have hgs := hA8.bx.row.lt
            clear hA hT8 hf8 hown
            by_cases hj0 : j = 0
            · subst hj0
              have c4 := hA8.bx.row.cell (i := 4) rfl
              have z4 := hA8.bx.row.frozen 4
              have HA8 := Lib.hid hA8
              have HOW := Lib.hid hown8
              have HNB := Lib.hid hnb
              clear hA8 hown8 hnb
              go_wp2_with (first | (at_builtin; refine app_row rfl (.tmp 54) (.tmp 56) 22 3 _ 1 8 rfl Tryz.underlying22 infoInt rfl (by decide) (by decide) (g + 1) l.length _ (ints l) rfl (HOW.out.alloc _) _ 1 [.int .i64 k] [] rfl (rowV_cells (size := 1) (RowAt.made w8 3 [.int .i64 k] #[.int .i64 k] rfl) rfl (Nat.le_refl _) (by decide) (by simp)) (by simp [Value.oneCell']) (l.length + 1) rfl (by omega) (by simp; omega) ?_; intro a7 c7 w7 own7 hf7 hb7; have hA7 := (HA8.out.nil ((Frm.refl [] w8).alloc _)).own hf7 (fun b hb => by have := (HOW.out.lt b (Option.mem_toList.1 hb)).1; omega); have cc7 := hA7.bx.row.cell (i := 4) rfl; have z7 := hA7.bx.row.frozen 4) | fail)
              have hA9 := hA7.set 4 (.slice a7 (l.length + 1) c7)
              have own9 := ownsB_other own7 (p := ⟨g, 4, none⟩) (by simp) (.slice a7 (l.length + 1) c7)
              clear c4 z4 cc7 z7 hf7 hb7 own7 hA7
              generalize w7.setCell ⟨g, 4, none⟩ _ = W7 at *
              go_roundg (r - (k + 1))
              case rel =>
                exact ⟨k + 1, l ++ [(k : Int)], _, rfl, by omega, by go_num, by simp; omega, asc_snoc k (by omega) HNB.out, by simpa [ints] using own9, hA9⟩
              case measure => have := HQ.out; omega
            · have hj1 : ¬ j = 0 := hj0
              go_wp2_with fail
              go_roundg (r - (k + 1))
              case rel => exact ⟨k + 1, l, _, rfl, by omega, by go_num, by omega, not_mono (by omega) hnb, hown8, hA8⟩
              case measure => have := HQ.out; omega
          · have i5 : ¬ (k : Int) < (r : Int) := by omega
            have hkr : k = r := by omega
            have hnb2 : notB r l = true := by rw [hkr] at hnb; exact hnb
            obtain ⟨va1, va2, rfl, _⟩ := owns_shape (ownsB_mono hown (Nat.zero_le _))
            have HKR := Lib.hid hkr
            have HNT : Hid (∀ F : List Nat, (∀ k ∈ F, k ≤ w.heap.size) → NotAt wr F (.slice va1 l.length va2) ⟨4, u, v - 1, 0, l, x⟩) := Lib.hid (fun F hF => rowV_of_owns hown (fun b hb e => by have := (hown.lt b e).1; have := hF b hb; have := hA.lt; omega))
            clear hkr hown
            have c0 := hA.bx.row.cell (i := 0) rfl
            have c1 := hA.bx.row.cell (i := 1) rfl
            have c2 := hA.bx.row.cell (i := 2) rfl
            have c3 := hA.bx.row.cell (i := 3) rfl
            have c4 := hA.bx.row.cell (i := 4) rfl
            have c5 := hA.bx.row.cell (i := 5) rfl
            have z0 := hA.bx.row.frozen 0
            have z1 := hA.bx.row.frozen 1
            have z2 := hA.bx.row.frozen 2
            have z3 := hA.bx.row.frozen 3
            have z4 := hA.bx.row.frozen 4
            have z5 := hA.bx.row.frozen 5
            have d0 := hA.res.cell (i := 0) rfl
            have d1 := hA.res.cell (i := 1) rfl
            have d2 := hA.res.cell (i := 2) rfl
            have d3 := hA.res.cell (i := 3) rfl
            have d4 := hA.res.cell (i := 4) rfl
            have d5 := hA.res.cell (i := 5) rfl
            have y0 := hA.res.frozen 0
            have y1 := hA.res.frozen 1
            have y2 := hA.res.frozen 2
            have y3 := hA.res.frozen 3
            have y4 := hA.res.frozen 4
            have y5 := hA.res.frozen 5
            have hgl := hA.lt
            have hgn : ¬ g = w.heap.size := by omega
            have hgm : ¬ w.heap.size = g := by omega
            go_wp2_with fail
            have hkr := HKR.out
            have ho := hA.out.1
            have hfin := ASt.fin (N := N) (r := r) (s := s) (a := ⟨4, u, v - 1, 0, l, x⟩) hA (by omega) (HNT.out) (fun st hst => by simp [arcB, belowB, restB, hst, hnb2] <;> omega)
            generalize hW6 : outW _ _ _ _ _ _ _ _ = W6 at ho hfin
            unfold outW at hW6
            rw [hW6]
            have e0 := ho.cell (i := 0) rfl
            have e1 := ho.cell (i := 1) rfl
            have e2 := ho.cell (i := 2) rfl
            have e3 := ho.cell (i := 3) rfl
            have e4 := ho.cell (i := 4) rfl
            have e5 := ho.cell (i := 5) rfl
            exact bodyPost_ret (v := arcV (.slice va1 l.length va2) ⟨4, u, v - 1, 0, l, x⟩) (by simp [results, Tryz.results16, go_sem, e0, e1, e2, e3, e4, e5, arcV]) rfl hfin
      · skip
        go_wp2_with fail
        refine (next_any B tb (N + 2) 2 _ hA2.bx.tape hB (by omega) (by omega)).mono ?_
        rintro e9 w9 ⟨⟨u, rfl, hu, -⟩, hT9, hf9⟩
        have hA4 := hA2.next hT9 hf9
        clear hT9 hf9
        go_wp2_with fail
        refine (next_any B tb (N + 3) r _ hA4.bx.tape hB (by omega) (by omega)).mono ?_
        rintro e9 w9 ⟨⟨v, rfl, hv, -⟩, hT9, hf9⟩
        have hA6 := hA4.next hT9 hf9
        clear hT9 hf9
        have c0 := hA6.bx.row.cell (i := 0) rfl
        have c1 := hA6.bx.row.cell (i := 1) rfl
        have c2 := hA6.bx.row.cell (i := 2) rfl
        have c3 := hA6.bx.row.cell (i := 3) rfl
        have c4 := hA6.bx.row.cell (i := 4) rfl
        have c5 := hA6.bx.row.cell (i := 5) rfl
        have z0 := hA6.bx.row.frozen 0
        have z1 := hA6.bx.row.frozen 1
        have z2 := hA6.bx.row.frozen 2
        have z3 := hA6.bx.row.frozen 3
        have z4 := hA6.bx.row.frozen 4
        have z5 := hA6.bx.row.frozen 5
        have d0 := hA6.res.cell (i := 0) rfl
        have d1 := hA6.res.cell (i := 1) rfl
        have d2 := hA6.res.cell (i := 2) rfl
        have d3 := hA6.res.cell (i := 3) rfl
        have d4 := hA6.res.cell (i := 4) rfl
        have d5 := hA6.res.cell (i := 5) rfl
        have y0 := hA6.res.frozen 0
        have y1 := hA6.res.frozen 1
        have y2 := hA6.res.frozen 2
        have y3 := hA6.res.frozen 3
        have y4 := hA6.res.frozen 4
        have y5 := hA6.res.frozen 5
        have hgl := hA6.lt
        have hgn : ¬ g = w.heap.size := by omega
        have hgm : ¬ w.heap.size = g := by omega
        have HR9 := Lib.hid hr9
        clear hr9
        go_wp2_with fail
        have hr9 := HR9.out
        have hA7 := ((hA6.set 0 (.int .i64 5)).set 1 (.int .i64 u)).set 2 (.int .i64 v)
        have ho := hA7.out.1
        have hfin := ASt.fin (N := N) (r := r) (s := s) (a := ⟨5, u, v, 0, [], x⟩) hA7 (by omega) (fun _ _ => RowV.nil0 _ _ _) (fun st hst => by simp [arcB, belowB, restB, hst] <;> omega)
        generalize hW6 : outW _ _ _ _ _ _ _ _ = W6 at ho hfin
        unfold outW at hW6
        rw [hW6]
        have e0 := ho.cell (i := 0) rfl
        have e1 := ho.cell (i := 1) rfl
        have e2 := ho.cell (i := 2) rfl
        have e3 := ho.cell (i := 3) rfl
        have e4 := ho.cell (i := 4) rfl
        have e5 := ho.cell (i := 5) rfl
        exact bodyPost_ret (v := arcV (.slice none 0 0) ⟨5, u, v, 0, [], x⟩) (by simp [results, Tryz.results16, go_sem, e0, e1, e2, e3, e4, e5, arcV]) rfl hfin
      · skip
        have c0 := hA2.bx.row.cell (i := 0) rfl
        have c1 := hA2.bx.row.cell (i := 1) rfl
        have c2 := hA2.bx.row.cell (i := 2) rfl
        have c3 := hA2.bx.row.cell (i := 3) rfl
        have c4 := hA2.bx.row.cell (i := 4) rfl
        have c5 := hA2.bx.row.cell (i := 5) rfl
        have z0 := hA2.bx.row.frozen 0
        have z1 := hA2.bx.row.frozen 1
        have z2 := hA2.bx.row.frozen 2
        have z3 := hA2.bx.row.frozen 3
        have z4 := hA2.bx.row.frozen 4
        have z5 := hA2.bx.row.frozen 5
        have d0 := hA2.res.cell (i := 0) rfl
        have d1 := hA2.res.cell (i := 1) rfl
        have d2 := hA2.res.cell (i := 2) rfl
        have d3 := hA2.res.cell (i := 3) rfl
        have d4 := hA2.res.cell (i := 4) rfl
        have d5 := hA2.res.cell (i := 5) rfl
        have y0 := hA2.res.frozen 0
        have y1 := hA2.res.frozen 1
        have y2 := hA2.res.frozen 2
        have y3 := hA2.res.frozen 3
        have y4 := hA2.res.frozen 4
        have y5 := hA2.res.frozen 5
        have hgl := hA2.lt
        have hgn : ¬ g = w.heap.size := by omega
        have hgm : ¬ w.heap.size = g := by omega
        go_wp2_with fail
        have hA3 := hA2.set 0 (.int .i64 3)
        have ho := hA3.out.1
        have hfin := ASt.fin (N := N) (r := r) (s := s) (a := ⟨3, 0, 0, 0, [], x⟩) hA3 (by omega) (fun _ _ => RowV.nil0 _ _ _) (fun st hst => by simp [arcB, belowB, restB, hst] <;> omega)
        generalize hW6 : outW _ _ _ _ _ _ _ _ = W6 at ho hfin
        unfold outW at hW6
        rw [hW6]
        have e0 := ho.cell (i := 0) rfl
        have e1 := ho.cell (i := 1) rfl
        have e2 := ho.cell (i := 2) rfl
        have e3 := ho.cell (i := 3) rfl
        have e4 := ho.cell (i := 4) rfl
        have e5 := ho.cell (i := 5) rfl
        exact bodyPost_ret (v := arcV (.slice none 0 0) ⟨3, 0, 0, 0, [], x⟩) (by simp [results, Tryz.results16, go_sem, e0, e1, e2, e3, e4, e5, arcV]) rfl hfin
      · skip
        have c0 := hA2.bx.row.cell (i := 0) rfl
        have z0 := hA2.bx.row.frozen 0
        go_wp2_with fail
        have f3 : Frm [] w2 (w2.alloc (.cells #[.int .i64 2, .int .i64 3, .int .i64 3] 3)) := (Frm.refl [] w2).alloc _
        have hA3 := hA2.nil f3
        clear f3 c0 z0
        have hq := RowAt.made w2 3 [.int .i64 2, .int .i64 3, .int .i64 3] #[.int .i64 2, .int .i64 3, .int .i64 3] rfl
        have hqg : ¬ w2.heap.size = g := by have := hA2.bx.row.lt; omega
        generalize w2.alloc (.cells #[.int .i64 2, .int .i64 3, .int .i64 3] 3) = w3 at *
        generalize hq9 : w2.heap.size = q at *
        have hqt : q ∉ [tb] := by have := hA2.bx.lt; have := hA2.bx.frm.size; simp; omega
        refine (next_any B tb (N + 2) 3 _ hA3.bx.tape hB (by omega) (by omega)).mono ?_
        rintro e9 w9 ⟨⟨j, rfl, hj, -⟩, hT9, hf9⟩
        have hA4 := hA3.next hT9 hf9
        have hq2 := hq.frm hf9 hqt
        clear hT9 hf9 hq hA3
        have q0 := hq2.cell (i := 0) rfl
        have q1 := hq2.cell (i := 1) rfl
        have q2 := hq2.cell (i := 2) rfl
        have hj' : j = 0 ∨ j = 1 ∨ j = 2 := by omega
        have c0 := hA4.bx.row.cell (i := 0) rfl
        have c1 := hA4.bx.row.cell (i := 1) rfl
        have c2 := hA4.bx.row.cell (i := 2) rfl
        have c3 := hA4.bx.row.cell (i := 3) rfl
        have c4 := hA4.bx.row.cell (i := 4) rfl
        have c5 := hA4.bx.row.cell (i := 5) rfl
        have z0 := hA4.bx.row.frozen 0
        have z1 := hA4.bx.row.frozen 1
        have z2 := hA4.bx.row.frozen 2
        have z3 := hA4.bx.row.frozen 3
        have z4 := hA4.bx.row.frozen 4
        have z5 := hA4.bx.row.frozen 5
        have d0 := hA4.res.cell (i := 0) rfl
        have d1 := hA4.res.cell (i := 1) rfl
        have d2 := hA4.res.cell (i := 2) rfl
        have d3 := hA4.res.cell (i := 3) rfl
        have d4 := hA4.res.cell (i := 4) rfl
        have d5 := hA4.res.cell (i := 5) rfl
        have y0 := hA4.res.frozen 0
        have y1 := hA4.res.frozen 1
        have y2 := hA4.res.frozen 2
        have y3 := hA4.res.frozen 3
        have y4 := hA4.res.frozen 4
        have y5 := hA4.res.frozen 5
        have hgl := hA4.lt
        have hgn : ¬ g = w.heap.size := by omega
        have hgm : ¬ w.heap.size = g := by omega
        rcases hj' with rfl | rfl | rfl
        · go_wp2_with fail
          have hA5 := hA4.set 0 (.int .i64 2)
          have ho := hA5.out.1
          have hfin := ASt.fin (N := N) (r := r) (s := s) (a := ⟨2, 0, 0, 0, [], x⟩) hA5 (by omega) (fun _ _ => RowV.nil0 _ _ _) (fun st hst => by simp [arcB, belowB, restB, hst] <;> omega)
          generalize hW6 : outW _ _ _ _ _ _ _ _ = W6 at ho hfin
          unfold outW at hW6
          rw [hW6]
          have e0 := ho.cell (i := 0) rfl
          have e1 := ho.cell (i := 1) rfl
          have e2 := ho.cell (i := 2) rfl
          have e3 := ho.cell (i := 3) rfl
          have e4 := ho.cell (i := 4) rfl
          have e5 := ho.cell (i := 5) rfl
          exact bodyPost_ret (v := arcV (.slice none 0 0) ⟨2, 0, 0, 0, [], x⟩) (by simp [results, Tryz.results16, go_sem, e0, e1, e2, e3, e4, e5, arcV]) rfl hfin
        · go_wp2_with fail
          have hA5 := hA4.set 0 (.int .i64 3)
          have ho := hA5.out.1
          have hfin := ASt.fin (N := N) (r := r) (s := s) (a := ⟨3, 0, 0, 0, [], x⟩) hA5 (by omega) (fun _ _ => RowV.nil0 _ _ _) (fun st hst => by simp [arcB, belowB, restB, hst] <;> omega)
          generalize hW6 : outW _ _ _ _ _ _ _ _ = W6 at ho hfin
          unfold outW at hW6
          rw [hW6]
          have e0 := ho.cell (i := 0) rfl
          have e1 := ho.cell (i := 1) rfl
          have e2 := ho.cell (i := 2) rfl
          have e3 := ho.cell (i := 3) rfl
          have e4 := ho.cell (i := 4) rfl
          have e5 := ho.cell (i := 5) rfl
          exact bodyPost_ret (v := arcV (.slice none 0 0) ⟨3, 0, 0, 0, [], x⟩) (by simp [results, Tryz.results16, go_sem, e0, e1, e2, e3, e4, e5, arcV]) rfl hfin
        · go_wp2_with fail
          have hA5 := hA4.set 0 (.int .i64 3)
          have ho := hA5.out.1
          have hfin := ASt.fin (N := N) (r := r) (s := s) (a := ⟨3, 0, 0, 0, [], x⟩) hA5 (by omega) (fun _ _ => RowV.nil0 _ _ _) (fun st hst => by simp [arcB, belowB, restB, hst] <;> omega)
          generalize hW6 : outW _ _ _ _ _ _ _ _ = W6 at ho hfin
          unfold outW at hW6
          rw [hW6]
          have e0 := ho.cell (i := 0) rfl
          have e1 := ho.cell (i := 1) rfl
          have e2 := ho.cell (i := 2) rfl
          have e3 := ho.cell (i := 3) rfl
          have e4 := ho.cell (i := 4) rfl
          have e5 := ho.cell (i := 5) rfl
          exact bodyPost_ret (v := arcV (.slice none 0 0) ⟨3, 0, 0, 0, [], x⟩) (by simp [results, Tryz.results16, go_sem, e0, e1, e2, e3, e4, e5, arcV]) rfl hfin
      · skip
        have c0 := hA2.bx.row.cell (i := 0) rfl
        have c1 := hA2.bx.row.cell (i := 1) rfl
        have c2 := hA2.bx.row.cell (i := 2) rfl
        have c3 := hA2.bx.row.cell (i := 3) rfl
        have c4 := hA2.bx.row.cell (i := 4) rfl
        have c5 := hA2.bx.row.cell (i := 5) rfl
        have z0 := hA2.bx.row.frozen 0
        have z1 := hA2.bx.row.frozen 1
        have z2 := hA2.bx.row.frozen 2
        have z3 := hA2.bx.row.frozen 3
        have z4 := hA2.bx.row.frozen 4
        have z5 := hA2.bx.row.frozen 5
        have d0 := hA2.res.cell (i := 0) rfl
        have d1 := hA2.res.cell (i := 1) rfl
        have d2 := hA2.res.cell (i := 2) rfl
        have d3 := hA2.res.cell (i := 3) rfl
        have d4 := hA2.res.cell (i := 4) rfl
        have d5 := hA2.res.cell (i := 5) rfl
        have y0 := hA2.res.frozen 0
        have y1 := hA2.res.frozen 1
        have y2 := hA2.res.frozen 2
        have y3 := hA2.res.frozen 3
        have y4 := hA2.res.frozen 4
        have y5 := hA2.res.frozen 5
        have hgl := hA2.lt
        have hgn : ¬ g = w.heap.size := by omega
        have hgm : ¬ w.heap.size = g := by omega
        go_wp2_with fail
        have hA3 := hA2.set 0 (.int .i64 1)
        have ho := hA3.out.1
        have hfin := ASt.fin (N := N) (r := r) (s := s) (a := ⟨1, 0, 0, 0, [], x⟩) hA3 (by omega) (fun _ _ => RowV.nil0 _ _ _) (fun st hst => by simp [arcB, belowB, restB, hst] <;> omega)
        generalize hW6 : outW _ _ _ _ _ _ _ _ = W6 at ho hfin
        unfold outW at hW6
        rw [hW6]
        have e0 := ho.cell (i := 0) rfl
        have e1 := ho.cell (i := 1) rfl
        have e2 := ho.cell (i := 2) rfl
        have e3 := ho.cell (i := 3) rfl
        have e4 := ho.cell (i := 4) rfl
        have e5 := ho.cell (i := 5) rfl
        exact bodyPost_ret (v := arcV (.slice none 0 0) ⟨1, 0, 0, 0, [], x⟩) (by simp [results, Tryz.results16, go_sem, e0, e1, e2, e3, e4, e5, arcV]) rfl hfin
      · skip
        go_wp2_with fail
        refine (next_any B tb (N + 2) r _ hA2.bx.tape hB (by omega) (by omega)).mono ?_
        rintro e9 w9 ⟨⟨u, rfl, hu, -⟩, hT9, hf9⟩
        have hA4 := hA2.next hT9 hf9
        clear hT9 hf9
        have c0 := hA4.bx.row.cell (i := 0) rfl
        have c1 := hA4.bx.row.cell (i := 1) rfl
        have c2 := hA4.bx.row.cell (i := 2) rfl
        have c3 := hA4.bx.row.cell (i := 3) rfl
        have c4 := hA4.bx.row.cell (i := 4) rfl
        have c5 := hA4.bx.row.cell (i := 5) rfl
        have z0 := hA4.bx.row.frozen 0
        have z1 := hA4.bx.row.frozen 1
        have z2 := hA4.bx.row.frozen 2
        have z3 := hA4.bx.row.frozen 3
        have z4 := hA4.bx.row.frozen 4
        have z5 := hA4.bx.row.frozen 5
        have d0 := hA4.res.cell (i := 0) rfl
        have d1 := hA4.res.cell (i := 1) rfl
        have d2 := hA4.res.cell (i := 2) rfl
        have d3 := hA4.res.cell (i := 3) rfl
        have d4 := hA4.res.cell (i := 4) rfl
        have d5 := hA4.res.cell (i := 5) rfl
        have y0 := hA4.res.frozen 0
        have y1 := hA4.res.frozen 1
        have y2 := hA4.res.frozen 2
        have y3 := hA4.res.frozen 3
        have y4 := hA4.res.frozen 4
        have y5 := hA4.res.frozen 5
        have hgl := hA4.lt
        have hgn : ¬ g = w.heap.size := by omega
        have hgm : ¬ w.heap.size = g := by omega
        go_wp2_with fail
        have hA5 := (hA4.set 0 (.int .i64 6)).set 2 (.int .i64 u)
        have ho := hA5.out.1
        have hfin := ASt.fin (N := N) (r := r) (s := s) (a := ⟨6, 0, u, 0, [], x⟩) hA5 (by omega) (fun _ _ => RowV.nil0 _ _ _) (fun st hst => by simp [arcB, belowB, restB, hst] <;> omega)
        generalize hW6 : outW _ _ _ _ _ _ _ _ = W6 at ho hfin
        unfold outW at hW6
        rw [hW6]
        have e0 := ho.cell (i := 0) rfl
        have e1 := ho.cell (i := 1) rfl
        have e2 := ho.cell (i := 2) rfl
        have e3 := ho.cell (i := 3) rfl
        have e4 := ho.cell (i := 4) rfl
        have e5 := ho.cell (i := 5) rfl
        exact bodyPost_ret (v := arcV (.slice none 0 0) ⟨6, 0, u, 0, [], x⟩) (by simp [results, Tryz.results16, go_sem, e0, e1, e2, e3, e4, e5, arcV]) rfl hfin
      · skip
        go_wp2_with fail
        refine (next_any B tb (N + 2) r _ hA2.bx.tape hB (by omega) (by omega)).mono ?_
        rintro e9 w9 ⟨⟨u, rfl, hu, -⟩, hT9, hf9⟩
        have hA4 := hA2.next hT9 hf9
        clear hT9 hf9
        go_wp2_with fail
        refine (next_any B tb (N + 3) r _ hA4.bx.tape hB (by omega) (by omega)).mono ?_
        rintro e9 w9 ⟨⟨v, rfl, hv, -⟩, hT9, hf9⟩
        have hA6 := hA4.next hT9 hf9
        clear hT9 hf9
        have c0 := hA6.bx.row.cell (i := 0) rfl
        have c1 := hA6.bx.row.cell (i := 1) rfl
        have c2 := hA6.bx.row.cell (i := 2) rfl
        have c3 := hA6.bx.row.cell (i := 3) rfl
        have c4 := hA6.bx.row.cell (i := 4) rfl
        have c5 := hA6.bx.row.cell (i := 5) rfl
        have z0 := hA6.bx.row.frozen 0
        have z1 := hA6.bx.row.frozen 1
        have z2 := hA6.bx.row.frozen 2
        have z3 := hA6.bx.row.frozen 3
        have z4 := hA6.bx.row.frozen 4
        have z5 := hA6.bx.row.frozen 5
        have d0 := hA6.res.cell (i := 0) rfl
        have d1 := hA6.res.cell (i := 1) rfl
        have d2 := hA6.res.cell (i := 2) rfl
        have d3 := hA6.res.cell (i := 3) rfl
        have d4 := hA6.res.cell (i := 4) rfl
        have d5 := hA6.res.cell (i := 5) rfl
        have y0 := hA6.res.frozen 0
        have y1 := hA6.res.frozen 1
        have y2 := hA6.res.frozen 2
        have y3 := hA6.res.frozen 3
        have y4 := hA6.res.frozen 4
        have y5 := hA6.res.frozen 5
        have hgl := hA6.lt
        have hgn : ¬ g = w.heap.size := by omega
        have hgm : ¬ w.heap.size = g := by omega
        go_wp2_with fail
        have hA7 := ((hA6.set 0 (.int .i64 7)).set 2 (.int .i64 u)).set 3 (.int .i64 v)
        have ho := hA7.out.1
        have hfin := ASt.fin (N := N) (r := r) (s := s) (a := ⟨7, 0, u, v, [], x⟩) hA7 (by omega) (fun _ _ => RowV.nil0 _ _ _) (fun st hst => by simp [arcB, belowB, restB, hst] <;> omega)
        generalize hW6 : outW _ _ _ _ _ _ _ _ = W6 at ho hfin
        unfold outW at hW6
        rw [hW6]
        have e0 := ho.cell (i := 0) rfl
        have e1 := ho.cell (i := 1) rfl
        have e2 := ho.cell (i := 2) rfl
        have e3 := ho.cell (i := 3) rfl
        have e4 := ho.cell (i := 4) rfl
        have e5 := ho.cell (i := 5) rfl
        exact bodyPost_ret (v := arcV (.slice none 0 0) ⟨7, 0, u, v, [], x⟩) (by simp [results, Tryz.results16, go_sem, e0, e1, e2, e3, e4, e5, arcV]) rfl hfin
  · by_cases hr9 : r = 0
    · subst hr9
      clear hr
      rw [show ((0 : Nat) : Int) = 0 from rfl]
      go_enter Tryz.func16, Tryz.ntmps16
      go_wp2_with fail
      refine n1.mono ?_
      rintro e1 w1 ⟨⟨x, rfl, hx, -⟩, hT1, hf1⟩
      have hA1 : ASt B tb (N + 1) w (w1.alloc (.cells #[.int .i64 0, .int .i64 0, .int .i64 0, .int .i64 0, .slice none 0 0, .int .i64 x] 47)) w1.heap.size [.int .i64 0, .int .i64 0, .int .i64 0, .int .i64 0, .slice none 0 0, .int .i64 x] := ASt.new hT1 hf1 hB hlt _ rfl
      clear hT1 hf1
      go_wp2_with fail
      generalize w1.alloc (.cells #[.int .i64 0, .int .i64 0, .int .i64 0, .int .i64 0, .slice none 0 0, .int .i64 x] 47) = W1 at *
      generalize w1.heap.size = g at *
      refine (next_any B tb (N + 1) 4 W1 hA1.bx.tape hB (by omega) (by omega)).mono ?_
      rintro e2 w2 ⟨⟨d, rfl, hd, -⟩, hT2, hf2⟩
      have hA2 := hA1.next hT2 hf2
      clear hA1 hT2 hf2 HT0 HF0 n1
      have hd' : d = 0 ∨ d = 1 ∨ d = 2 ∨ d = 3 := by omega
      rcases hd' with rfl | rfl | rfl | rfl
      · skip
        go_wp2_with fail
        refine (next_any B tb (N + 2) 2 _ hA2.bx.tape hB (by omega) (by omega)).mono ?_
        rintro e9 w9 ⟨⟨u, rfl, hu, -⟩, hT9, hf9⟩
        have hA4 := hA2.next hT9 hf9
        clear hT9 hf9
        go_wp2_with fail
        refine (next_any B tb (N + 3) 1 _ hA4.bx.tape hB (by omega) (by omega)).mono ?_
        rintro e9 w9 ⟨⟨v, rfl, hv, -⟩, hT9, hf9⟩
        have hA6 := hA4.next hT9 hf9
        clear hT9 hf9
        have hv1 : 0 ≤ v := by omega
        have hv2 : v ≤ 4 := by omega
        have c0 := hA6.bx.row.cell (i := 0) rfl
        have z0 := hA6.bx.row.frozen 0
        have c1 := hA6.bx.row.cell (i := 1) rfl
        have z1 := hA6.bx.row.frozen 1
        have c2 := hA6.bx.row.cell (i := 2) rfl
        have z2 := hA6.bx.row.frozen 2
        go_wp2_with fail
        clear c0 z0 c1 z1 c2 z2
        have hA7 := ((hA6.set 0 (.int .i64 4)).set 1 (.int .i64 u)).set 2 (.int .i64 (v - 1))
        obtain ⟨W0, hW0⟩ : ∃ W0, W0 = ((w9.setCell ⟨g, 0, none⟩ (.int .i64 4)).setCell ⟨g, 1, none⟩ (.int .i64 u)).setCell ⟨g, 2, none⟩ (.int .i64 (v - 1)) := ⟨_, rfl⟩
        simp only [List.set_cons_succ, List.set_cons_zero] at hA7
        rw [← hW0] at hA7 ⊢
        clear hW0 hA6 hA4
        go_loopg [11] 0 (fun q i wr => ∃ (k : Nat) (l : List Int) (va : Value), q = 0 - k ∧ k ≤ 0 ∧ i = .int .i64 k ∧ l.length ≤ k ∧ notB k l = true ∧ wr.ownsRow (g + 1) 3 1 va l.length (ints l) ∧ ASt B tb (N + 4 + k) w wr g [.int .i64 4, .int .i64 u, .int .i64 (v - 1), .int .i64 0, va, .int .i64 x])
        case atStart => exact ⟨0, [], .slice none 0 0, rfl, Nat.zero_le _, rfl, Nat.le_refl _, rfl, ⟨rfl, .inl ⟨rfl, rfl⟩⟩, hA7⟩
        case round =>
          obtain ⟨k, l, va, hq, hk, rfl, hlk, hnb, hown, hA⟩ := hrel
          have i4 : (0 : Int) ≤ (k : Int) := by omega
          have HQ := Lib.hid hq
          clear hq
          by_cases hlt : k < 0
          · have i5 : (k : Int) < (0 : Int) := by omega
            exact absurd hlt (Nat.not_lt_zero _)
          · have i5 : ¬ (k : Int) < (0 : Int) := by omega
            have hkr : k = 0 := by omega
            have hnb2 : notB 0 l = true := by rw [hkr] at hnb; exact hnb
            obtain ⟨va1, va2, rfl, _⟩ := owns_shape (ownsB_mono hown (Nat.zero_le _))
            have HKR := Lib.hid hkr
            have HNT : Hid (∀ F : List Nat, (∀ k ∈ F, k ≤ w.heap.size) → NotAt wr F (.slice va1 l.length va2) ⟨4, u, v - 1, 0, l, x⟩) := Lib.hid (fun F hF => rowV_of_owns hown (fun b hb e => by have := (hown.lt b e).1; have := hF b hb; have := hA.lt; omega))
            clear hkr hown
            have c0 := hA.bx.row.cell (i := 0) rfl
            have c1 := hA.bx.row.cell (i := 1) rfl
            have c2 := hA.bx.row.cell (i := 2) rfl
            have c3 := hA.bx.row.cell (i := 3) rfl
            have c4 := hA.bx.row.cell (i := 4) rfl
            have c5 := hA.bx.row.cell (i := 5) rfl
            have z0 := hA.bx.row.frozen 0
            have z1 := hA.bx.row.frozen 1
            have z2 := hA.bx.row.frozen 2
            have z3 := hA.bx.row.frozen 3
            have z4 := hA.bx.row.frozen 4
            have z5 := hA.bx.row.frozen 5
            have d0 := hA.res.cell (i := 0) rfl
            have d1 := hA.res.cell (i := 1) rfl
            have d2 := hA.res.cell (i := 2) rfl
            have d3 := hA.res.cell (i := 3) rfl
            have d4 := hA.res.cell (i := 4) rfl
            have d5 := hA.res.cell (i := 5) rfl
            have y0 := hA.res.frozen 0
            have y1 := hA.res.frozen 1
            have y2 := hA.res.frozen 2
            have y3 := hA.res.frozen 3
            have y4 := hA.res.frozen 4
            have y5 := hA.res.frozen 5
            have hgl := hA.lt
            have hgn : ¬ g = w.heap.size := by omega
            have hgm : ¬ w.heap.size = g := by omega
            go_wp2_with fail
            have hkr := HKR.out
            have ho := hA.out.1
            have hfin := ASt.fin (N := N) (r := 0) (s := s) (a := ⟨4, u, v - 1, 0, l, x⟩) hA (by omega) (HNT.out) (fun st hst => by simp [arcB, belowB, restB, hst, hnb2] <;> omega)
            generalize hW6 : outW _ _ _ _ _ _ _ _ = W6 at ho hfin
            unfold outW at hW6
            rw [hW6]
            have e0 := ho.cell (i := 0) rfl
            have e1 := ho.cell (i := 1) rfl
            have e2 := ho.cell (i := 2) rfl
            have e3 := ho.cell (i := 3) rfl
            have e4 := ho.cell (i := 4) rfl
            have e5 := ho.cell (i := 5) rfl
            exact bodyPost_ret (v := arcV (.slice va1 l.length va2) ⟨4, u, v - 1, 0, l, x⟩) (by simp [results, Tryz.results16, go_sem, e0, e1, e2, e3, e4, e5, arcV]) rfl hfin
      · skip
        go_wp2_with fail
        refine (next_any B tb (N + 2) 2 _ hA2.bx.tape hB (by omega) (by omega)).mono ?_
        rintro e9 w9 ⟨⟨u, rfl, hu, -⟩, hT9, hf9⟩
        have hA4 := hA2.next hT9 hf9
        clear hT9 hf9
        go_wp2_with fail
        refine (next_any B tb (N + 3) 0 _ hA4.bx.tape hB (by omega) (by omega)).mono ?_
        rintro e9 w9 ⟨⟨v, rfl, hv, -⟩, hT9, hf9⟩
        have hA6 := hA4.next hT9 hf9
        clear hT9 hf9
        have c0 := hA6.bx.row.cell (i := 0) rfl
        have c1 := hA6.bx.row.cell (i := 1) rfl
        have c2 := hA6.bx.row.cell (i := 2) rfl
        have c3 := hA6.bx.row.cell (i := 3) rfl
        have c4 := hA6.bx.row.cell (i := 4) rfl
        have c5 := hA6.bx.row.cell (i := 5) rfl
        have z0 := hA6.bx.row.frozen 0
        have z1 := hA6.bx.row.frozen 1
        have z2 := hA6.bx.row.frozen 2
        have z3 := hA6.bx.row.frozen 3
        have z4 := hA6.bx.row.frozen 4
        have z5 := hA6.bx.row.frozen 5
        have d0 := hA6.res.cell (i := 0) rfl
        have d1 := hA6.res.cell (i := 1) rfl
        have d2 := hA6.res.cell (i := 2) rfl
        have d3 := hA6.res.cell (i := 3) rfl
        have d4 := hA6.res.cell (i := 4) rfl
        have d5 := hA6.res.cell (i := 5) rfl
        have y0 := hA6.res.frozen 0
        have y1 := hA6.res.frozen 1
        have y2 := hA6.res.frozen 2
        have y3 := hA6.res.frozen 3
        have y4 := hA6.res.frozen 4
        have y5 := hA6.res.frozen 5
        have hgl := hA6.lt
        have hgn : ¬ g = w.heap.size := by omega
        have hgm : ¬ w.heap.size = g := by omega
        go_upto_region 17 with fail
        clear c0 c1 c2 c3 c4 c5 z0 z1 z2 z3 z4 z5 d0 d1 d2 d3 d4 d5 y0 y1 y2 y3 y4 y5 hgl hgn hgm
        have hA5 := ((hA6.set 0 (.int .i64 5)).set 1 (.int .i64 u)).set 2 (.int .i64 v)
        generalize (((w9.setCell ⟨g, 0, none⟩ (.int .i64 5)).setCell ⟨g, 1, none⟩ (.int .i64 u)).setCell ⟨g, 2, none⟩ (.int .i64 v)) = w3 at *
        simp only [List.set_cons_succ, List.set_cons_zero] at hA5
        clear hA6
        have c0 := hA5.bx.row.cell (i := 0) rfl
        have c1 := hA5.bx.row.cell (i := 1) rfl
        have c2 := hA5.bx.row.cell (i := 2) rfl
        have c3 := hA5.bx.row.cell (i := 3) rfl
        have c4 := hA5.bx.row.cell (i := 4) rfl
        have c5 := hA5.bx.row.cell (i := 5) rfl
        have z0 := hA5.bx.row.frozen 0
        have z1 := hA5.bx.row.frozen 1
        have z2 := hA5.bx.row.frozen 2
        have z3 := hA5.bx.row.frozen 3
        have z4 := hA5.bx.row.frozen 4
        have z5 := hA5.bx.row.frozen 5
        have d0 := hA5.res.cell (i := 0) rfl
        have d1 := hA5.res.cell (i := 1) rfl
        have d2 := hA5.res.cell (i := 2) rfl
        have d3 := hA5.res.cell (i := 3) rfl
        have d4 := hA5.res.cell (i := 4) rfl
        have d5 := hA5.res.cell (i := 5) rfl
        have y0 := hA5.res.frozen 0
        have y1 := hA5.res.frozen 1
        have y2 := hA5.res.frozen 2
        have y3 := hA5.res.frozen 3
        have y4 := hA5.res.frozen 4
        have y5 := hA5.res.frozen 5
        have hgl := hA5.lt
        have hgn : ¬ g = w.heap.size := by omega
        have hgm : ¬ w.heap.size = g := by omega
        go_wp2_with fail
        have hA7 := ((hA5.set 0 (.int .i64 3)).set 1 (.int .i64 0)).set 2 (.int .i64 0)
        have ho := hA7.out.1
        have hfin := ASt.fin (N := N) (r := 0) (s := s) (a := ⟨3, 0, 0, 0, [], x⟩) hA7 (by omega) (fun _ _ => RowV.nil0 _ _ _) (fun st hst => by simp [arcB, belowB, restB, hst] <;> omega)
        generalize hW6 : outW _ _ _ _ _ _ _ _ = W6 at ho hfin
        unfold outW at hW6
        rw [hW6]
        have e0 := ho.cell (i := 0) rfl
        have e1 := ho.cell (i := 1) rfl
        have e2 := ho.cell (i := 2) rfl
        have e3 := ho.cell (i := 3) rfl
        have e4 := ho.cell (i := 4) rfl
        have e5 := ho.cell (i := 5) rfl
        exact bodyPost_ret (v := arcV (.slice none 0 0) ⟨3, 0, 0, 0, [], x⟩) (by simp [results, Tryz.results16, go_sem, e0, e1, e2, e3, e4, e5, arcV]) rfl hfin
      · skip
        have c0 := hA2.bx.row.cell (i := 0) rfl
        have c1 := hA2.bx.row.cell (i := 1) rfl
        have c2 := hA2.bx.row.cell (i := 2) rfl
        have c3 := hA2.bx.row.cell (i := 3) rfl
        have c4 := hA2.bx.row.cell (i := 4) rfl
        have c5 := hA2.bx.row.cell (i := 5) rfl
        have z0 := hA2.bx.row.frozen 0
        have z1 := hA2.bx.row.frozen 1
        have z2 := hA2.bx.row.frozen 2
        have z3 := hA2.bx.row.frozen 3
        have z4 := hA2.bx.row.frozen 4
        have z5 := hA2.bx.row.frozen 5
        have d0 := hA2.res.cell (i := 0) rfl
        have d1 := hA2.res.cell (i := 1) rfl
        have d2 := hA2.res.cell (i := 2) rfl
        have d3 := hA2.res.cell (i := 3) rfl
        have d4 := hA2.res.cell (i := 4) rfl
        have d5 := hA2.res.cell (i := 5) rfl
        have y0 := hA2.res.frozen 0
        have y1 := hA2.res.frozen 1
        have y2 := hA2.res.frozen 2
        have y3 := hA2.res.frozen 3
        have y4 := hA2.res.frozen 4
        have y5 := hA2.res.frozen 5
        have hgl := hA2.lt
        have hgn : ¬ g = w.heap.size := by omega
        have hgm : ¬ w.heap.size = g := by omega
        go_wp2_with fail
        have hA3 := hA2.set 0 (.int .i64 3)
        have ho := hA3.out.1
        have hfin := ASt.fin (N := N) (r := 0) (s := s) (a := ⟨3, 0, 0, 0, [], x⟩) hA3 (by omega) (fun _ _ => RowV.nil0 _ _ _) (fun st hst => by simp [arcB, belowB, restB, hst] <;> omega)
        generalize hW6 : outW _ _ _ _ _ _ _ _ = W6 at ho hfin
        unfold outW at hW6
        rw [hW6]
        have e0 := ho.cell (i := 0) rfl
        have e1 := ho.cell (i := 1) rfl
        have e2 := ho.cell (i := 2) rfl
        have e3 := ho.cell (i := 3) rfl
        have e4 := ho.cell (i := 4) rfl
        have e5 := ho.cell (i := 5) rfl
        exact bodyPost_ret (v := arcV (.slice none 0 0) ⟨3, 0, 0, 0, [], x⟩) (by simp [results, Tryz.results16, go_sem, e0, e1, e2, e3, e4, e5, arcV]) rfl hfin
      · skip
        have c0 := hA2.bx.row.cell (i := 0) rfl
        have z0 := hA2.bx.row.frozen 0
        go_wp2_with fail
        have f3 : Frm [] w2 (w2.alloc (.cells #[.int .i64 2, .int .i64 3, .int .i64 3] 3)) := (Frm.refl [] w2).alloc _
        have hA3 := hA2.nil f3
        clear f3 c0 z0
        have hq := RowAt.made w2 3 [.int .i64 2, .int .i64 3, .int .i64 3] #[.int .i64 2, .int .i64 3, .int .i64 3] rfl
        have hqg : ¬ w2.heap.size = g := by have := hA2.bx.row.lt; omega
        generalize w2.alloc (.cells #[.int .i64 2, .int .i64 3, .int .i64 3] 3) = w3 at *
        generalize hq9 : w2.heap.size = q at *
        have hqt : q ∉ [tb] := by have := hA2.bx.lt; have := hA2.bx.frm.size; simp; omega
        refine (next_any B tb (N + 2) 3 _ hA3.bx.tape hB (by omega) (by omega)).mono ?_
        rintro e9 w9 ⟨⟨j, rfl, hj, -⟩, hT9, hf9⟩
        have hA4 := hA3.next hT9 hf9
        have hq2 := hq.frm hf9 hqt
        clear hT9 hf9 hq hA3
        have q0 := hq2.cell (i := 0) rfl
        have q1 := hq2.cell (i := 1) rfl
        have q2 := hq2.cell (i := 2) rfl
        have hj' : j = 0 ∨ j = 1 ∨ j = 2 := by omega
        have c0 := hA4.bx.row.cell (i := 0) rfl
        have c1 := hA4.bx.row.cell (i := 1) rfl
        have c2 := hA4.bx.row.cell (i := 2) rfl
        have c3 := hA4.bx.row.cell (i := 3) rfl
        have c4 := hA4.bx.row.cell (i := 4) rfl
        have c5 := hA4.bx.row.cell (i := 5) rfl
        have z0 := hA4.bx.row.frozen 0
        have z1 := hA4.bx.row.frozen 1
        have z2 := hA4.bx.row.frozen 2
        have z3 := hA4.bx.row.frozen 3
        have z4 := hA4.bx.row.frozen 4
        have z5 := hA4.bx.row.frozen 5
        have d0 := hA4.res.cell (i := 0) rfl
        have d1 := hA4.res.cell (i := 1) rfl
        have d2 := hA4.res.cell (i := 2) rfl
        have d3 := hA4.res.cell (i := 3) rfl
        have d4 := hA4.res.cell (i := 4) rfl
        have d5 := hA4.res.cell (i := 5) rfl
        have y0 := hA4.res.frozen 0
        have y1 := hA4.res.frozen 1
        have y2 := hA4.res.frozen 2
        have y3 := hA4.res.frozen 3
        have y4 := hA4.res.frozen 4
        have y5 := hA4.res.frozen 5
        have hgl := hA4.lt
        have hgn : ¬ g = w.heap.size := by omega
        have hgm : ¬ w.heap.size = g := by omega
        rcases hj' with rfl | rfl | rfl
        · go_wp2_with fail
          have hA5 := hA4.set 0 (.int .i64 2)
          have ho := hA5.out.1
          have hfin := ASt.fin (N := N) (r := 0) (s := s) (a := ⟨2, 0, 0, 0, [], x⟩) hA5 (by omega) (fun _ _ => RowV.nil0 _ _ _) (fun st hst => by simp [arcB, belowB, restB, hst] <;> omega)
          generalize hW6 : outW _ _ _ _ _ _ _ _ = W6 at ho hfin
          unfold outW at hW6
          rw [hW6]
          have e0 := ho.cell (i := 0) rfl
          have e1 := ho.cell (i := 1) rfl
          have e2 := ho.cell (i := 2) rfl
          have e3 := ho.cell (i := 3) rfl
          have e4 := ho.cell (i := 4) rfl
          have e5 := ho.cell (i := 5) rfl
          exact bodyPost_ret (v := arcV (.slice none 0 0) ⟨2, 0, 0, 0, [], x⟩) (by simp [results, Tryz.results16, go_sem, e0, e1, e2, e3, e4, e5, arcV]) rfl hfin
        · go_wp2_with fail
          have hA5 := hA4.set 0 (.int .i64 3)
          have ho := hA5.out.1
          have hfin := ASt.fin (N := N) (r := 0) (s := s) (a := ⟨3, 0, 0, 0, [], x⟩) hA5 (by omega) (fun _ _ => RowV.nil0 _ _ _) (fun st hst => by simp [arcB, belowB, restB, hst] <;> omega)
          generalize hW6 : outW _ _ _ _ _ _ _ _ = W6 at ho hfin
          unfold outW at hW6
          rw [hW6]
          have e0 := ho.cell (i := 0) rfl
          have e1 := ho.cell (i := 1) rfl
          have e2 := ho.cell (i := 2) rfl
          have e3 := ho.cell (i := 3) rfl
          have e4 := ho.cell (i := 4) rfl
          have e5 := ho.cell (i := 5) rfl
          exact bodyPost_ret (v := arcV (.slice none 0 0) ⟨3, 0, 0, 0, [], x⟩) (by simp [results, Tryz.results16, go_sem, e0, e1, e2, e3, e4, e5, arcV]) rfl hfin
        · go_wp2_with fail
          have hA5 := hA4.set 0 (.int .i64 3)
          have ho := hA5.out.1
          have hfin := ASt.fin (N := N) (r := 0) (s := s) (a := ⟨3, 0, 0, 0, [], x⟩) hA5 (by omega) (fun _ _ => RowV.nil0 _ _ _) (fun st hst => by simp [arcB, belowB, restB, hst] <;> omega)
          generalize hW6 : outW _ _ _ _ _ _ _ _ = W6 at ho hfin
          unfold outW at hW6
          rw [hW6]
          have e0 := ho.cell (i := 0) rfl
          have e1 := ho.cell (i := 1) rfl
          have e2 := ho.cell (i := 2) rfl
          have e3 := ho.cell (i := 3) rfl
          have e4 := ho.cell (i := 4) rfl
          have e5 := ho.cell (i := 5) rfl
          exact bodyPost_ret (v := arcV (.slice none 0 0) ⟨3, 0, 0, 0, [], x⟩) (by simp [results, Tryz.results16, go_sem, e0, e1, e2, e3, e4, e5, arcV]) rfl hfin
    · have hr1 : ((r : Int) == 0) = false := by simpa using hr9
      have hr2 : 1 ≤ r := by omega
      go_enter Tryz.func16, Tryz.ntmps16
      go_wp2_with fail
      refine n1.mono ?_
      rintro e1 w1 ⟨⟨x, rfl, hx, -⟩, hT1, hf1⟩
      have hA1 : ASt B tb (N + 1) w (w1.alloc (.cells #[.int .i64 0, .int .i64 0, .int .i64 0, .int .i64 0, .slice none 0 0, .int .i64 x] 47)) w1.heap.size [.int .i64 0, .int .i64 0, .int .i64 0, .int .i64 0, .slice none 0 0, .int .i64 x] := ASt.new hT1 hf1 hB hlt _ rfl
      clear hT1 hf1
      go_wp2_with fail
      generalize w1.alloc (.cells #[.int .i64 0, .int .i64 0, .int .i64 0, .int .i64 0, .slice none 0 0, .int .i64 x] 47) = W1 at *
      generalize w1.heap.size = g at *
      refine (next_any B tb (N + 1) 4 W1 hA1.bx.tape hB (by omega) (by omega)).mono ?_
      rintro e2 w2 ⟨⟨d, rfl, hd, -⟩, hT2, hf2⟩
      have hA2 := hA1.next hT2 hf2
      clear hA1 hT2 hf2 HT0 HF0 n1
      have hd' : d = 0 ∨ d = 1 ∨ d = 2 ∨ d = 3 := by omega
      rcases hd' with rfl | rfl | rfl | rfl
      · skip
        go_wp2_with fail
        refine (next_any B tb (N + 2) 2 _ hA2.bx.tape hB (by omega) (by omega)).mono ?_
        rintro e9 w9 ⟨⟨u, rfl, hu, -⟩, hT9, hf9⟩
        have hA4 := hA2.next hT9 hf9
        clear hT9 hf9
        go_wp2_with fail
        refine (next_any B tb (N + 3) ((r : Int) + 1) _ hA4.bx.tape hB (by omega) (by omega)).mono ?_
        rintro e9 w9 ⟨⟨v, rfl, hv, -⟩, hT9, hf9⟩
        have hA6 := hA4.next hT9 hf9
        clear hT9 hf9
        have hv1 : 0 ≤ v := by omega
        have hv2 : v ≤ 4 := by omega
        have c0 := hA6.bx.row.cell (i := 0) rfl
        have z0 := hA6.bx.row.frozen 0
        have c1 := hA6.bx.row.cell (i := 1) rfl
        have z1 := hA6.bx.row.frozen 1
        have c2 := hA6.bx.row.cell (i := 2) rfl
        have z2 := hA6.bx.row.frozen 2
        go_wp2_with fail
        clear c0 z0 c1 z1 c2 z2
        have hA7 := ((hA6.set 0 (.int .i64 4)).set 1 (.int .i64 u)).set 2 (.int .i64 (v - 1))
        obtain ⟨W0, hW0⟩ : ∃ W0, W0 = ((w9.setCell ⟨g, 0, none⟩ (.int .i64 4)).setCell ⟨g, 1, none⟩ (.int .i64 u)).setCell ⟨g, 2, none⟩ (.int .i64 (v - 1)) := ⟨_, rfl⟩
        simp only [List.set_cons_succ, List.set_cons_zero] at hA7
        rw [← hW0] at hA7 ⊢
        clear hW0 hA6 hA4
        go_loopg [11] r (fun q i wr => ∃ (k : Nat) (l : List Int) (va : Value), q = r - k ∧ k ≤ r ∧ i = .int .i64 k ∧ l.length ≤ k ∧ notB k l = true ∧ wr.ownsRow (g + 1) 3 1 va l.length (ints l) ∧ ASt B tb (N + 4 + k) w wr g [.int .i64 4, .int .i64 u, .int .i64 (v - 1), .int .i64 0, va, .int .i64 x])
        case atStart => exact ⟨0, [], .slice none 0 0, rfl, Nat.zero_le _, rfl, Nat.le_refl _, rfl, ⟨rfl, .inl ⟨rfl, rfl⟩⟩, hA7⟩
        case round =>
          obtain ⟨k, l, va, hq, hk, rfl, hlk, hnb, hown, hA⟩ := hrel
          have i4 : (0 : Int) ≤ (k : Int) := by omega
          have HQ := Lib.hid hq
          clear hq
          by_cases hlt : k < r
          · have i5 : (k : Int) < (r : Int) := by omega
            obtain ⟨va1, va2, rfl, _⟩ := owns_shape (ownsB_mono hown (Nat.zero_le _))
            go_wp2_with fail
            refine (next_any B tb (N + 4 + k) 2 _ hA.bx.tape hB (by omega) (by omega)).mono ?_
            rintro e8 w8 ⟨⟨j, rfl, hj, -⟩, hT8, hf8⟩
            have hA8 := hA.next hT8 hf8
            have hgb := hA.bx.row.lt
            have hown8 := ownsB_frm hown hf8 (fun b hb => by have := (hown.lt b hb).1; have := hA.bx.lt; have := hA.lt; simp; omega)
            have hgs := hA8.bx.row.lt
            clear hA hT8 hf8 hown
            by_cases hj0 : j = 0
            · subst hj0
              have c4 := hA8.bx.row.cell (i := 4) rfl
              have z4 := hA8.bx.row.frozen 4
              have HA8 := Lib.hid hA8
              have HOW := Lib.hid hown8
              have HNB := Lib.hid hnb
              clear hA8 hown8 hnb
              go_wp2_with (first | (at_builtin; refine app_row rfl (.tmp 54) (.tmp 56) 22 3 _ 1 8 rfl Tryz.underlying22 infoInt rfl (by decide) (by decide) (g + 1) l.length _ (ints l) rfl (HOW.out.alloc _) _ 1 [.int .i64 k] [] rfl (rowV_cells (size := 1) (RowAt.made w8 3 [.int .i64 k] #[.int .i64 k] rfl) rfl (Nat.le_refl _) (by decide) (by simp)) (by simp [Value.oneCell']) (l.length + 1) rfl (by omega) (by simp; omega) ?_; intro a7 c7 w7 own7 hf7 hb7; have hA7 := (HA8.out.nil ((Frm.refl [] w8).alloc _)).own hf7 (fun b hb => by have := (HOW.out.lt b (Option.mem_toList.1 hb)).1; omega); have cc7 := hA7.bx.row.cell (i := 4) rfl; have z7 := hA7.bx.row.frozen 4) | fail)
              have hA9 := hA7.set 4 (.slice a7 (l.length + 1) c7)
              have own9 := ownsB_other own7 (p := ⟨g, 4, none⟩) (by simp) (.slice a7 (l.length + 1) c7)
              clear c4 z4 cc7 z7 hf7 hb7 own7 hA7
              generalize w7.setCell ⟨g, 4, none⟩ _ = W7 at *
              go_roundg (r - (k + 1))
              case rel =>
                exact ⟨k + 1, l ++ [(k : Int)], _, rfl, by omega, by go_num, by simp; omega, asc_snoc k (by omega) HNB.out, by simpa [ints] using own9, hA9⟩
              case measure => have := HQ.out; omega
            · have hj1 : ¬ j = 0 := hj0
              go_wp2_with fail
              go_roundg (r - (k + 1))
              case rel => exact ⟨k + 1, l, _, rfl, by omega, by go_num, by omega, not_mono (by omega) hnb, hown8, hA8⟩
              case measure => have := HQ.out; omega
          · have i5 : ¬ (k : Int) < (r : Int) := by omega
            have hkr : k = r := by omega
            have hnb2 : notB r l = true := by rw [hkr] at hnb; exact hnb
            obtain ⟨va1, va2, rfl, _⟩ := owns_shape (ownsB_mono hown (Nat.zero_le _))
            have HKR := Lib.hid hkr
            have HNT : Hid (∀ F : List Nat, (∀ k ∈ F, k ≤ w.heap.size) → NotAt wr F (.slice va1 l.length va2) ⟨4, u, v - 1, 0, l, x⟩) := Lib.hid (fun F hF => rowV_of_owns hown (fun b hb e => by have := (hown.lt b e).1; have := hF b hb; have := hA.lt; omega))
            clear hkr hown
            have c0 := hA.bx.row.cell (i := 0) rfl
            have c1 := hA.bx.row.cell (i := 1) rfl
            have c2 := hA.bx.row.cell (i := 2) rfl
            have c3 := hA.bx.row.cell (i := 3) rfl
            have c4 := hA.bx.row.cell (i := 4) rfl
            have c5 := hA.bx.row.cell (i := 5) rfl
            have z0 := hA.bx.row.frozen 0
            have z1 := hA.bx.row.frozen 1
            have z2 := hA.bx.row.frozen 2
            have z3 := hA.bx.row.frozen 3
            have z4 := hA.bx.row.frozen 4
            have z5 := hA.bx.row.frozen 5
            have d0 := hA.res.cell (i := 0) rfl
            have d1 := hA.res.cell (i := 1) rfl
            have d2 := hA.res.cell (i := 2) rfl
            have d3 := hA.res.cell (i := 3) rfl
            have d4 := hA.res.cell (i := 4) rfl
            have d5 := hA.res.cell (i := 5) rfl
            have y0 := hA.res.frozen 0
            have y1 := hA.res.frozen 1
            have y2 := hA.res.frozen 2
            have y3 := hA.res.frozen 3
            have y4 := hA.res.frozen 4
            have y5 := hA.res.frozen 5
            have hgl := hA.lt
            have hgn : ¬ g = w.heap.size := by omega
            have hgm : ¬ w.heap.size = g := by omega
            go_wp2_with fail
            have hkr := HKR.out
            have ho := hA.out.1
            have hfin := ASt.fin (N := N) (r := r) (s := s) (a := ⟨4, u, v - 1, 0, l, x⟩) hA (by omega) (HNT.out) (fun st hst => by simp [arcB, belowB, restB, hst, hnb2] <;> omega)
            generalize hW6 : outW _ _ _ _ _ _ _ _ = W6 at ho hfin
            unfold outW at hW6
            rw [hW6]
            have e0 := ho.cell (i := 0) rfl
            have e1 := ho.cell (i := 1) rfl
            have e2 := ho.cell (i := 2) rfl
            have e3 := ho.cell (i := 3) rfl
            have e4 := ho.cell (i := 4) rfl
            have e5 := ho.cell (i := 5) rfl
            exact bodyPost_ret (v := arcV (.slice va1 l.length va2) ⟨4, u, v - 1, 0, l, x⟩) (by simp [results, Tryz.results16, go_sem, e0, e1, e2, e3, e4, e5, arcV]) rfl hfin
      · skip
        go_wp2_with fail
        refine (next_any B tb (N + 2) 2 _ hA2.bx.tape hB (by omega) (by omega)).mono ?_
        rintro e9 w9 ⟨⟨u, rfl, hu, -⟩, hT9, hf9⟩
        have hA4 := hA2.next hT9 hf9
        clear hT9 hf9
        go_wp2_with fail
        refine (next_any B tb (N + 3) r _ hA4.bx.tape hB (by omega) (by omega)).mono ?_
        rintro e9 w9 ⟨⟨v, rfl, hv, -⟩, hT9, hf9⟩
        have hA6 := hA4.next hT9 hf9
        clear hT9 hf9
        have c0 := hA6.bx.row.cell (i := 0) rfl
        have c1 := hA6.bx.row.cell (i := 1) rfl
        have c2 := hA6.bx.row.cell (i := 2) rfl
        have c3 := hA6.bx.row.cell (i := 3) rfl
        have c4 := hA6.bx.row.cell (i := 4) rfl
        have c5 := hA6.bx.row.cell (i := 5) rfl
        have z0 := hA6.bx.row.frozen 0
        have z1 := hA6.bx.row.frozen 1
        have z2 := hA6.bx.row.frozen 2
        have z3 := hA6.bx.row.frozen 3
        have z4 := hA6.bx.row.frozen 4
        have z5 := hA6.bx.row.frozen 5
        have d0 := hA6.res.cell (i := 0) rfl
        have d1 := hA6.res.cell (i := 1) rfl
        have d2 := hA6.res.cell (i := 2) rfl
        have d3 := hA6.res.cell (i := 3) rfl
        have d4 := hA6.res.cell (i := 4) rfl
        have d5 := hA6.res.cell (i := 5) rfl
        have y0 := hA6.res.frozen 0
        have y1 := hA6.res.frozen 1
        have y2 := hA6.res.frozen 2
        have y3 := hA6.res.frozen 3
        have y4 := hA6.res.frozen 4
        have y5 := hA6.res.frozen 5
        have hgl := hA6.lt
        have hgn : ¬ g = w.heap.size := by omega
        have hgm : ¬ w.heap.size = g := by omega
        have HR9 := Lib.hid hr9
        clear hr9
        go_wp2_with fail
        have hr9 := HR9.out
        have hA7 := ((hA6.set 0 (.int .i64 5)).set 1 (.int .i64 u)).set 2 (.int .i64 v)
        have ho := hA7.out.1
        have hfin := ASt.fin (N := N) (r := r) (s := s) (a := ⟨5, u, v, 0, [], x⟩) hA7 (by omega) (fun _ _ => RowV.nil0 _ _ _) (fun st hst => by simp [arcB, belowB, restB, hst] <;> omega)
        generalize hW6 : outW _ _ _ _ _ _ _ _ = W6 at ho hfin
        unfold outW at hW6
        rw [hW6]
        have e0 := ho.cell (i := 0) rfl
        have e1 := ho.cell (i := 1) rfl
        have e2 := ho.cell (i := 2) rfl
        have e3 := ho.cell (i := 3) rfl
        have e4 := ho.cell (i := 4) rfl
        have e5 := ho.cell (i := 5) rfl
        exact bodyPost_ret (v := arcV (.slice none 0 0) ⟨5, u, v, 0, [], x⟩) (by simp [results, Tryz.results16, go_sem, e0, e1, e2, e3, e4, e5, arcV]) rfl hfin
      · skip
        have c0 := hA2.bx.row.cell (i := 0) rfl
        have c1 := hA2.bx.row.cell (i := 1) rfl
        have c2 := hA2.bx.row.cell (i := 2) rfl
        have c3 := hA2.bx.row.cell (i := 3) rfl
        have c4 := hA2.bx.row.cell (i := 4) rfl
        have c5 := hA2.bx.row.cell (i := 5) rfl
        have z0 := hA2.bx.row.frozen 0
        have z1 := hA2.bx.row.frozen 1
        have z2 := hA2.bx.row.frozen 2
        have z3 := hA2.bx.row.frozen 3
        have z4 := hA2.bx.row.frozen 4
        have z5 := hA2.bx.row.frozen 5
        have d0 := hA2.res.cell (i := 0) rfl
        have d1 := hA2.res.cell (i := 1) rfl
        have d2 := hA2.res.cell (i := 2) rfl
        have d3 := hA2.res.cell (i := 3) rfl
        have d4 := hA2.res.cell (i := 4) rfl
        have d5 := hA2.res.cell (i := 5) rfl
        have y0 := hA2.res.frozen 0
        have y1 := hA2.res.frozen 1
        have y2 := hA2.res.frozen 2
        have y3 := hA2.res.frozen 3
        have y4 := hA2.res.frozen 4
        have y5 := hA2.res.frozen 5
        have hgl := hA2.lt
        have hgn : ¬ g = w.heap.size := by omega
        have hgm : ¬ w.heap.size = g := by omega
        go_wp2_with fail
        have hA3 := hA2.set 0 (.int .i64 3)
        have ho := hA3.out.1
        have hfin := ASt.fin (N := N) (r := r) (s := s) (a := ⟨3, 0, 0, 0, [], x⟩) hA3 (by omega) (fun _ _ => RowV.nil0 _ _ _) (fun st hst => by simp [arcB, belowB, restB, hst] <;> omega)
        generalize hW6 : outW _ _ _ _ _ _ _ _ = W6 at ho hfin
        unfold outW at hW6
        rw [hW6]
        have e0 := ho.cell (i := 0) rfl
        have e1 := ho.cell (i := 1) rfl
        have e2 := ho.cell (i := 2) rfl
        have e3 := ho.cell (i := 3) rfl
        have e4 := ho.cell (i := 4) rfl
        have e5 := ho.cell (i := 5) rfl
        exact bodyPost_ret (v := arcV (.slice none 0 0) ⟨3, 0, 0, 0, [], x⟩) (by simp [results, Tryz.results16, go_sem, e0, e1, e2, e3, e4, e5, arcV]) rfl hfin
      · skip
        have c0 := hA2.bx.row.cell (i := 0) rfl
        have z0 := hA2.bx.row.frozen 0
        go_wp2_with fail
        have f3 : Frm [] w2 (w2.alloc (.cells #[.int .i64 2, .int .i64 3, .int .i64 3] 3)) := (Frm.refl [] w2).alloc _
        have hA3 := hA2.nil f3
        clear f3 c0 z0
        have hq := RowAt.made w2 3 [.int .i64 2, .int .i64 3, .int .i64 3] #[.int .i64 2, .int .i64 3, .int .i64 3] rfl
        have hqg : ¬ w2.heap.size = g := by have := hA2.bx.row.lt; omega
        generalize w2.alloc (.cells #[.int .i64 2, .int .i64 3, .int .i64 3] 3) = w3 at *
        generalize hq9 : w2.heap.size = q at *
        have hqt : q ∉ [tb] := by have := hA2.bx.lt; have := hA2.bx.frm.size; simp; omega
        refine (next_any B tb (N + 2) 3 _ hA3.bx.tape hB (by omega) (by omega)).mono ?_
        rintro e9 w9 ⟨⟨j, rfl, hj, -⟩, hT9, hf9⟩
        have hA4 := hA3.next hT9 hf9
        have hq2 := hq.frm hf9 hqt
        clear hT9 hf9 hq hA3
        have q0 := hq2.cell (i := 0) rfl
        have q1 := hq2.cell (i := 1) rfl
        have q2 := hq2.cell (i := 2) rfl
        have hj' : j = 0 ∨ j = 1 ∨ j = 2 := by omega
        have c0 := hA4.bx.row.cell (i := 0) rfl
        have c1 := hA4.bx.row.cell (i := 1) rfl
        have c2 := hA4.bx.row.cell (i := 2) rfl
        have c3 := hA4.bx.row.cell (i := 3) rfl
        have c4 := hA4.bx.row.cell (i := 4) rfl
        have c5 := hA4.bx.row.cell (i := 5) rfl
        have z0 := hA4.bx.row.frozen 0
        have z1 := hA4.bx.row.frozen 1
        have z2 := hA4.bx.row.frozen 2
        have z3 := hA4.bx.row.frozen 3
        have z4 := hA4.bx.row.frozen 4
        have z5 := hA4.bx.row.frozen 5
        have d0 := hA4.res.cell (i := 0) rfl
        have d1 := hA4.res.cell (i := 1) rfl
        have d2 := hA4.res.cell (i := 2) rfl
        have d3 := hA4.res.cell (i := 3) rfl
        have d4 := hA4.res.cell (i := 4) rfl
        have d5 := hA4.res.cell (i := 5) rfl
        have y0 := hA4.res.frozen 0
        have y1 := hA4.res.frozen 1
        have y2 := hA4.res.frozen 2
        have y3 := hA4.res.frozen 3
        have y4 := hA4.res.frozen 4
        have y5 := hA4.res.frozen 5
        have hgl := hA4.lt
        have hgn : ¬ g = w.heap.size := by omega
        have hgm : ¬ w.heap.size = g := by omega
        rcases hj' with rfl | rfl | rfl
        · go_wp2_with fail
          have hA5 := hA4.set 0 (.int .i64 2)
          have ho := hA5.out.1
          have hfin := ASt.fin (N := N) (r := r) (s := s) (a := ⟨2, 0, 0, 0, [], x⟩) hA5 (by omega) (fun _ _ => RowV.nil0 _ _ _) (fun st hst => by simp [arcB, belowB, restB, hst] <;> omega)
          generalize hW6 : outW _ _ _ _ _ _ _ _ = W6 at ho hfin
          unfold outW at hW6
          rw [hW6]
          have e0 := ho.cell (i := 0) rfl
          have e1 := ho.cell (i := 1) rfl
          have e2 := ho.cell (i := 2) rfl
          have e3 := ho.cell (i := 3) rfl
          have e4 := ho.cell (i := 4) rfl
          have e5 := ho.cell (i := 5) rfl
          exact bodyPost_ret (v := arcV (.slice none 0 0) ⟨2, 0, 0, 0, [], x⟩) (by simp [results, Tryz.results16, go_sem, e0, e1, e2, e3, e4, e5, arcV]) rfl hfin
        · go_wp2_with fail
          have hA5 := hA4.set 0 (.int .i64 3)
          have ho := hA5.out.1
          have hfin := ASt.fin (N := N) (r := r) (s := s) (a := ⟨3, 0, 0, 0, [], x⟩) hA5 (by omega) (fun _ _ => RowV.nil0 _ _ _) (fun st hst => by simp [arcB, belowB, restB, hst] <;> omega)
          generalize hW6 : outW _ _ _ _ _ _ _ _ = W6 at ho hfin
          unfold outW at hW6
          rw [hW6]
          have e0 := ho.cell (i := 0) rfl
          have e1 := ho.cell (i := 1) rfl
          have e2 := ho.cell (i := 2) rfl
          have e3 := ho.cell (i := 3) rfl
          have e4 := ho.cell (i := 4) rfl
          have e5 := ho.cell (i := 5) rfl
          exact bodyPost_ret (v := arcV (.slice none 0 0) ⟨3, 0, 0, 0, [], x⟩) (by simp [results, Tryz.results16, go_sem, e0, e1, e2, e3, e4, e5, arcV]) rfl hfin
        · go_wp2_with fail
          have hA5 := hA4.set 0 (.int .i64 3)
          have ho := hA5.out.1
          have hfin := ASt.fin (N := N) (r := r) (s := s) (a := ⟨3, 0, 0, 0, [], x⟩) hA5 (by omega) (fun _ _ => RowV.nil0 _ _ _) (fun st hst => by simp [arcB, belowB, restB, hst] <;> omega)
          generalize hW6 : outW _ _ _ _ _ _ _ _ = W6 at ho hfin
          unfold outW at hW6
          rw [hW6]
          have e0 := ho.cell (i := 0) rfl
          have e1 := ho.cell (i := 1) rfl
          have e2 := ho.cell (i := 2) rfl
          have e3 := ho.cell (i := 3) rfl
          have e4 := ho.cell (i := 4) rfl
          have e5 := ho.cell (i := 5) rfl
          exact bodyPost_ret (v := arcV (.slice none 0 0) ⟨3, 0, 0, 0, [], x⟩) (by simp [results, Tryz.results16, go_sem, e0, e1, e2, e3, e4, e5, arcV]) rfl hfin
end Go.Proofs.YtdknbgejhhoaiaaGreat.Ind
