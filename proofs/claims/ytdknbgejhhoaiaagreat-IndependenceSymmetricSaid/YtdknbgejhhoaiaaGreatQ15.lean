/- Contracts of set and of the closures of moves. -/
import Derived.Test.YtdknbgejhhoaiaaGreatQ14
import Derived.Test.YtdknbgejhhoaiaaGreatQ10
namespace Go.Proofs.YtdknbgejhhoaiaaGreat.Ind
open Go.Shelf
open Go.RowKit

def mvC (x : Mv) : List Value := .int .i64 x.1 :: .int .i64 x.2.1 :: ints x.2.2
def mvsC (l : List Mv) : List Value := l.flatMap mvC
def Four (rs : List Int) : Prop := rs.length = 4
theorem four_ex {rs : List Int} (h : rs.length = 4) : ∃ a b c d, rs = [a, b, c, d] := by
  match rs, h with
  | [a, b, c, d], _ => exact ⟨a, b, c, d, rfl⟩
theorem mvsC_len {l : List Mv} (h : ∀ x ∈ l, x.2.2.length = 4) : (mvsC l).length = l.length * 6 := by
  induction l with
  | nil => rfl
  | cons x r ih =>
    have h1 := h x List.mem_cons_self
    have h2 := ih (fun y hy => h y (List.mem_cons_of_mem _ hy))
    simp only [mvsC, List.flatMap_cons, List.length_append, mvC, List.length_cons, ints, List.length_map, h1] at h2 ⊢
    omega
theorem mvsC_app (l r : List Mv) : mvsC (l ++ r) = mvsC l ++ mvsC r := by simp [mvsC]
theorem mvsC_one (l : List Mv) : ∀ u ∈ mvsC l, u.oneCell' = true := by
  intro u hu
  simp only [mvsC, List.mem_flatMap] at hu
  obtain ⟨x, _, hx⟩ := hu
  rcases List.mem_cons.1 hx with rfl | hx
  · rfl
  · rcases List.mem_cons.1 hx with rfl | hx
    · rfl
    · simp [ints] at hx
      obtain ⟨y, _, rfl⟩ := hx
      rfl
theorem infoMv : (Tryz.prog.info? 74).map (fun i => (i.zero, i.size, i.bytes)) = some (some (.agg #[.int .i64 0, .int .i64 0, .int .i64 0, .int .i64 0, .int .i64 0, .int .i64 0]), 6, 48) := by kernel_rfl

theorem owns_fullB (w : World) (B e size n : Nat) (xs : List Value) (A : Array Value) (hA : A.toList = xs) (hl : xs.length = n * size) (hn : n ≤ maxLen) (hB : B ≤ w.heap.size) : (w.alloc (.cells A e)).ownsRow B e size (.slice (some ⟨w.heap.size, 0, none⟩) n n) n xs :=
  ⟨hl, .inr ⟨w.heap.size, n, A, rfl, hB, heap_alloc_new w _, Nat.le_refl _, hn, by rw [← hA] at hl; simpa using hl, by rw [hA, ← hl, List.take_length]⟩⟩
def regV (a b c d : Int) : Value := .agg #[.int .i64 a, .int .i64 b, .int .i64 c, .int .i64 d]
/-- What set makes of four registers. -/
def setV (rs : List Int) : Value := .agg (ints rs).toArray
set_option linter.unusedSimpArgs false in
set_option maxHeartbeats 1000000 in
theorem set_any (a b c d r v : Int) (w : World) (h0 : -1 ≤ r) (h1 : r < 4) :
    Calls Tryz.prog 58 #[regV a b c d, .int .i64 r, .int .i64 v] w fun e w' => e = .returned (setV (setR [a, b, c, d] r v)) ∧ Frm [] w w' := by
  have hr : r = -1 ∨ r = 0 ∨ r = 1 ∨ r = 2 ∨ r = 3 := by omega
  unfold regV
  rcases hr with rfl | rfl | rfl | rfl | rfl
  · go_enter Tryz.func58, Tryz.ntmps58
    go_wp2_with fail
    refine bodyPost_ret (v := regV a b c d) (by simp [results, Tryz.results58, go_sem]; rfl) rfl ?_
    exact ⟨rfl, ((Frm.refl [] w).alloc _).alloc _⟩
  · go_enter Tryz.func58, Tryz.ntmps58
    go_wp2_with fail
    refine bodyPost_ret (v := regV v b c d) (by simp [results, Tryz.results58, go_sem]; rfl) rfl ?_
    exact ⟨rfl, ((Frm.refl [] w).alloc _).alloc _⟩
  · go_enter Tryz.func58, Tryz.ntmps58
    go_wp2_with fail
    refine bodyPost_ret (v := regV a v c d) (by simp [results, Tryz.results58, go_sem]; rfl) rfl ?_
    exact ⟨rfl, ((Frm.refl [] w).alloc _).alloc _⟩
  · go_enter Tryz.func58, Tryz.ntmps58
    go_wp2_with fail
    refine bodyPost_ret (v := regV a b v d) (by simp [results, Tryz.results58, go_sem]; rfl) rfl ?_
    exact ⟨rfl, ((Frm.refl [] w).alloc _).alloc _⟩
  · go_enter Tryz.func58, Tryz.ntmps58
    go_wp2_with fail
    refine bodyPost_ret (v := regV a b c v) (by simp [results, Tryz.results58, go_sem]; rfl) rfl ?_
    exact ⟨rfl, ((Frm.refl [] w).alloc _).alloc _⟩

/-- The boxes that the closures of moves capture: the machine, the number of values, the arc. -/
structure Caps (w : World) (xm xn xa : Nat) (m : RM) (sa : Option Addr) (sn sc : Nat) (n : Int) (na : Option Addr) (nl nc : Nat) (a : RA) : Prop where
  m : RowAt w xm 30 (mboxC m (.slice sa sn sc))
  n : RowAt w xn 3 [.int .i64 n]
  a : RowAt w xa 47 [.int .i64 a.kind, .int .i64 a.ch, .int .i64 a.reg, .int .i64 a.frm, .slice na nl nc, .int .i64 a.to]
theorem Caps.nil {w w' : World} {xm xn xa : Nat} {m : RM} {sa : Option Addr} {sn sc : Nat} {n : Int} {na : Option Addr} {nl nc : Nat} {a : RA} (h : Caps w xm xn xa m sa sn sc n na nl nc a) (hf : Frm [] w w') : Caps w' xm xn xa m sa sn sc n na nl nc a :=
  ⟨h.m.frm hf (by simp), h.n.frm hf (by simp), h.a.frm hf (by simp)⟩
/-- What is asked of the numbers, so that none of them wraps. -/
structure NumOk (m : RM) (n : Int) (a : RA) : Prop where
  d0 : 0 ≤ m.data
  d1 : m.data ≤ 8
  n0 : 1 ≤ n
  n1 : n ≤ 12
  c0 : 0 ≤ a.ch
  c1 : a.ch ≤ 8

set_option linter.unusedSimpArgs false in
set_option maxRecDepth 100000 in
set_option maxHeartbeats 2000000 in
theorem one_any (w : World) {xm xn xa : Nat} {m : RM} {sa : Option Addr} {sn sc : Nat} {n : Int} {na : Option Addr} {nl nc : Nat} {a : RA} (h : Caps w xm xn xa m sa sn sc n na nl nc a) (ho : NumOk m n a) (val r0 r1 r2 r3 : Int) (hv0 : 0 ≤ val) (hv1 : val ≤ 12) :
    Calls Tryz.prog 56 #[.int .i64 val, regV r0 r1 r2 r3, .pointer (some ⟨xm, 0, none⟩), .pointer (some ⟨xn, 0, none⟩), .pointer (some ⟨xa, 0, none⟩)] w
      fun e w' => (∃ g, e = .returned (.slice (some ⟨g, 0, none⟩) 1 1) ∧ w'.ownsRow w.heap.size 74 6 (.slice (some ⟨g, 0, none⟩) 1 1) 1 (mvC (evB m n a val, a.to, [r0, r1, r2, r3]))) ∧ Frm [] w w' := by
  have hcall := fun W => event_any W m sa sn sc n val na nl nc a ho.d0 ho.d1 (by have := ho.n0; omega) ho.n1 ho.c0 ho.c1 hv0 hv1
  have m0 := Lib.hid (h.m.cell (i := 0) rfl)
  have m1 := Lib.hid (h.m.cell (i := 1) rfl)
  have m2 := Lib.hid (h.m.cell (i := 2) rfl)
  have m3 := Lib.hid (h.m.cell (i := 3) rfl)
  have n0 := Lib.hid (h.n.cell (i := 0) rfl)
  have a0 := Lib.hid (h.a.cell (i := 0) rfl)
  have a1 := Lib.hid (h.a.cell (i := 1) rfl)
  have a2 := Lib.hid (h.a.cell (i := 2) rfl)
  have a3 := Lib.hid (h.a.cell (i := 3) rfl)
  have a4 := Lib.hid (h.a.cell (i := 4) rfl)
  have a5 := Lib.hid (h.a.cell (i := 5) rfl)
  have f0 : Frm [] w (w.alloc (.cells #[.int .i64 r0, .int .i64 r1, .int .i64 r2, .int .i64 r3] 65)) := (Frm.refl [] w).alloc _
  have hb := RowAt.made w 65 [.int .i64 r0, .int .i64 r1, .int .i64 r2, .int .i64 r3] #[.int .i64 r0, .int .i64 r1, .int .i64 r2, .int .i64 r3] rfl
  have b0 := Lib.hid (hb.cell (i := 0) rfl)
  have b1 := Lib.hid (hb.cell (i := 1) rfl)
  have b2 := Lib.hid (hb.cell (i := 2) rfl)
  have b3 := Lib.hid (hb.cell (i := 3) rfl)
  clear hb h ho hv0 hv1
  generalize evB m n a val = ev at *
  obtain ⟨regs, data, plain, states⟩ := m
  obtain ⟨kind, ch, reg, frm, not, tgt⟩ := a
  unfold machV arcV at hcall
  unfold regV
  have HC := Lib.hid hcall
  clear hcall
  simp only at *
  have F0 := Lib.hid f0
  clear f0
  go_enter Tryz.func56, Tryz.ntmps56
  go_wp2_with fail
  generalize hW : w.alloc (.cells #[.int .i64 r0, .int .i64 r1, .int .i64 r2, .int .i64 r3] 65) = W at *
  have KEEP : Hid (∀ w', Frm [] W w' → w'.cell? ⟨xm, 0, none⟩ = some (.int .i64 regs) ∧ w'.cell? ⟨xm, 1, none⟩ = some (.int .i64 data) ∧ w'.cell? ⟨xm, 2, none⟩ = some (.int .i64 plain) ∧ w'.cell? ⟨xm, 3, none⟩ = some (.slice sa sn sc) ∧ w'.cell? ⟨xn, 0, none⟩ = some (.int .i64 n) ∧ w'.cell? ⟨xa, 0, none⟩ = some (.int .i64 kind) ∧ w'.cell? ⟨xa, 1, none⟩ = some (.int .i64 ch) ∧ w'.cell? ⟨xa, 2, none⟩ = some (.int .i64 reg) ∧ w'.cell? ⟨xa, 3, none⟩ = some (.int .i64 frm) ∧ w'.cell? ⟨xa, 4, none⟩ = some (.slice na nl nc) ∧ w'.cell? ⟨xa, 5, none⟩ = some (.int .i64 tgt) ∧ w'.cell? ⟨w.heap.size, 0, none⟩ = some (.int .i64 r0) ∧ w'.cell? ⟨w.heap.size, 1, none⟩ = some (.int .i64 r1) ∧ w'.cell? ⟨w.heap.size, 2, none⟩ = some (.int .i64 r2) ∧ w'.cell? ⟨w.heap.size, 3, none⟩ = some (.int .i64 r3)) := Lib.hid fun w' hf => by
    have hx := F0.out.trans hf (by simp)
    exact ⟨hx.cell m0.out (by simp), hx.cell m1.out (by simp), hx.cell m2.out (by simp), hx.cell m3.out (by simp), hx.cell n0.out (by simp), hx.cell a0.out (by simp), hx.cell a1.out (by simp), hx.cell a2.out (by simp), hx.cell a3.out (by simp), hx.cell a4.out (by simp), hx.cell a5.out (by simp), hf.cell b0.out (by simp), hf.cell b1.out (by simp), hf.cell b2.out (by simp), hf.cell b3.out (by simp)⟩
  go_region_held3 (fun w' => w'.cell? ⟨xm, 0, none⟩ = some (.int .i64 regs) ∧ w'.cell? ⟨xm, 1, none⟩ = some (.int .i64 data) ∧ w'.cell? ⟨xm, 2, none⟩ = some (.int .i64 plain) ∧ w'.cell? ⟨xm, 3, none⟩ = some (.slice sa sn sc) ∧ w'.cell? ⟨xn, 0, none⟩ = some (.int .i64 n) ∧ w'.cell? ⟨xa, 0, none⟩ = some (.int .i64 kind) ∧ w'.cell? ⟨xa, 1, none⟩ = some (.int .i64 ch) ∧ w'.cell? ⟨xa, 2, none⟩ = some (.int .i64 reg) ∧ w'.cell? ⟨xa, 3, none⟩ = some (.int .i64 frm) ∧ w'.cell? ⟨xa, 4, none⟩ = some (.slice na nl nc) ∧ w'.cell? ⟨xa, 5, none⟩ = some (.int .i64 tgt) ∧ w'.cell? ⟨w.heap.size, 0, none⟩ = some (.int .i64 r0) ∧ w'.cell? ⟨w.heap.size, 1, none⟩ = some (.int .i64 r1) ∧ w'.cell? ⟨w.heap.size, 2, none⟩ = some (.int .i64 r2) ∧ w'.cell? ⟨w.heap.size, 3, none⟩ = some (.int .i64 r3))
    (first | exact KEEP.out _ (Frm.refl [] W) | exact KEEP.out _ (Frm.refl [] W).drew | exact KEEP.out _ hy5 | exact KEEP.out _ (hy5.alloc _))
    (first | (go_at_call 57; refine (HC.out _).mono ?_; rintro e5 w5 ⟨rfl, hf5⟩; have hy5 := (Frm.refl [] W).drew.trans hf5 (by simp)))
  go_wp2_with fail
  go_ret
  have G5 := F0.out.trans hy5 (by simp)
  exact ⟨⟨w5.heap.size, rfl, owns_fullB w5 _ _ 6 1 _ _ rfl rfl (by decide) G5.size⟩, G5.alloc _⟩

set_option linter.unusedSimpArgs false in
set_option maxRecDepth 100000 in
theorem taken_any (w : World) (xp xv : Nat) (st r0 r1 r2 r3 v : Int) (r : Int) (hp : RowAt w xp 67 [.int .i64 st, .int .i64 r0, .int .i64 r1, .int .i64 r2, .int .i64 r3]) (hv : RowAt w xv 3 [.int .i64 v]) (h0 : 0 ≤ r) (h1 : r < 4) :
    Calls Tryz.prog 60 #[.int .i64 r, .pointer (some ⟨xp, 0, none⟩), .pointer (some ⟨xv, 0, none⟩)] w fun e w' => e = .returned (.bool (decide (regR [r0, r1, r2, r3] r = v))) ∧ Frm [] w w' := by
  have c0 := hp.cell (i := 0) rfl
  have c1 := hp.cell (i := 1) rfl
  have c2 := hp.cell (i := 2) rfl
  have c3 := hp.cell (i := 3) rfl
  have c4 := hp.cell (i := 4) rfl
  have d0 := hv.cell (i := 0) rfl
  clear hp hv
  have hr : r = 0 ∨ r = 1 ∨ r = 2 ∨ r = 3 := by omega
  clear h0 h1
  rcases hr with rfl | rfl | rfl | rfl
  all_goals
    go_enter Tryz.func60, Tryz.ntmps60
    go_wp2_with fail
    go_quiet (fail)
    go_wp2_with fail
    go_ret
    refine ⟨ret_bool ?_, (Frm.refl [] w).drewN _⟩
    rw [Bool.eq_iff_iff]
    simp [regR]

end Go.Proofs.YtdknbgejhhoaiaaGreat.Ind
