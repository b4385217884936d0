/- The methods' contracts over a heap of which only its blocks are named; awake. -/
import Derived.Test.YtlpgonnionbkfaaWC
namespace Go.Proofs.Ytlpgonnionbkfaa
open Go.RowKit

def HR (w : World) (hb : Nat) (fp : List Nat) (most : Int) (cs : List HC) : Prop := ∃ cv vs, HeapRep w hb 60 cv vs most cs ∧ fpOf hb cv vs = fp

/-- A heap has turned: its own blocks alone, and new ones. -/
def HStep (w w' : World) (hb : Nat) (fp : List Nat) (most : Int) (cs' : List HC) : Prop := ∃ fp', HR w' hb fp' most cs' ∧ Frm fp w w' ∧ ∀ x ∈ fp', x ∈ fp ∨ w.heap.size ≤ x

section
variable {w w' : World} {hb : Nat} {fp fq : List Nat} {most : Int} {cs : List HC}

theorem HR.frm (h : HR w hb fp most cs) (hf : Frm fq w w') (hn : ∀ k ∈ fp, k ∉ fq) : HR w' hb fp most cs := by
  obtain ⟨cv, vs, h1, rfl⟩ := h
  exact ⟨cv, vs, h1.frm hf hn, rfl⟩

theorem HR.lt (h : HR w hb fp most cs) : ∀ k ∈ fp, k < w.heap.size := by
  obtain ⟨cv, vs, h1, rfl⟩ := h
  exact h1.lt

theorem HR.hb_mem (h : HR w hb fp most cs) : hb ∈ fp := by
  obtain ⟨cv, vs, h1, rfl⟩ := h
  simp [fpOf]

theorem hr_new (most : Int) (w : World) (h1 : 1 ≤ most) (h2 : most ≤ 65536) :
    Calls Try.prog 8 #[.int .i64 most] w fun e w' => e = .returned (.tuple #[.pointer (some ⟨w.heap.size, 0, none⟩), .int .i64 0]) ∧ Frm [] w w' ∧ HR w' w.heap.size [w.heap.size] most [] :=
  (new_any most w h1 h2).mono fun _ _ ⟨he, hf, _, hr⟩ => ⟨he, hf, _, _, hr, rfl⟩

theorem hr_alloc (h : HR w hb fp most cs) (k n : Int) (v : Value) (xs : List Int) (hv : IntsAt w v xs) (hk : k = 1 ∨ (4 ≤ k ∧ k ≤ 19)) (hx : refersB (cs.length + 1) xs = true) (hm : (cs.length : Int) < most) (hmm : most ≤ 65536) :
    Calls Try.prog 10 #[.pointer (some ⟨hb, 0, none⟩), .agg #[.int .i64 k, .int .i64 n, v]] w fun e w' => e = .returned (.tuple #[.int .i64 cs.length, .int .i64 0]) ∧ HStep w w' hb fp most (cs ++ [⟨k, n, xs⟩]) := by
  obtain ⟨cv, vs, h1, rfl⟩ := h
  rcases hk with rfl | ⟨hk1, hk2⟩
  · exact (alloc_thunk h1 n v xs hv hx hm hmm).mono fun _ _ ⟨he, cv', v', hr, hf, hs⟩ => ⟨he, _, ⟨_, _, hr, rfl⟩, hf, hs⟩
  · exact (alloc_data h1 k n hk1 hk2 v xs hv hx hm hmm).mono fun _ _ ⟨he, cv', v', hr, hf, hs⟩ => ⟨he, _, ⟨_, _, hr, rfl⟩, hf, hs⟩

theorem hr_enter_thunk (h : HR w hb fp most cs) (r t : Nat) (num : Int) (refs : List Int) (hr : r < cs.length) (hf : fol cs cs.length r = some t) (hc : cs[t]? = some ⟨1, num, refs⟩) :
    Calls Try.prog 11 #[.pointer (some ⟨hb, 0, none⟩), .int .i64 r] w fun e w' => ∃ a cap, e = .returned (.tuple #[.agg #[.int .i64 1, .int .i64 num, .slice a refs.length cap], .int .i64 0]) ∧
      IntsAt w' (.slice a refs.length cap) refs ∧ HStep w w' hb fp most (cs.set t ⟨2, num, []⟩) := by
  obtain ⟨cv, vs, h1, rfl⟩ := h
  exact (enter_thunk h1 r t num refs hr hf hc).mono fun _ _ ⟨a, cap, he, _, ho, hp, hfr⟩ => ⟨a, cap, he, ints_of_owns ho, _, ⟨_, _, hp, rfl⟩, hfr, fun x hx => by
    rcases fpOf_set_sub hx with hx | hx
    · exact .inl hx
    · simp [Value.ownBlock] at hx⟩

theorem hr_enter_other (h : HR w hb fp most cs) (r t : Nat) (c : HC) (hr : r < cs.length) (hf : fol cs cs.length r = some t) (hc : cs[t]? = some c) (hk : c.kind ≠ 1) :
    Calls Try.prog 11 #[.pointer (some ⟨hb, 0, none⟩), .int .i64 r] w fun e w' => e = .returned (.tuple #[.agg zcell, .int .i64 (if c.kind = 2 then 14 else 20)]) ∧ Frm [] w w' := by
  obtain ⟨cv, vs, h1, rfl⟩ := h
  exact enter_other h1 r t c hr hf hc hk

theorem hr_update_ok (h : HR w hb fp most cs) (r to t : Nat) (num : Int) (refs : List Int) (hr : cs[r]? = some ⟨2, num, refs⟩) (ht : to < cs.length) (hf : fol cs cs.length to = some t) (hne : t ≠ r) :
    Calls Try.prog 12 #[.pointer (some ⟨hb, 0, none⟩), .int .i64 r, .int .i64 to] w fun e w' => e = .returned (.int .i64 0) ∧ HStep w w' hb fp most (cs.set r ⟨3, num, [(to : Int)]⟩) := by
  obtain ⟨cv, vs, h1, rfl⟩ := h
  exact (update_ok h1 r to t num refs hr ht hf hne).mono fun _ _ ⟨he, hp, hfr⟩ => ⟨he, _, ⟨_, _, hp, rfl⟩, hfr, fun x hx => by
    rcases fpOf_set_sub hx with hx | hx
    · exact .inl hx
    · simp [Value.ownBlock] at hx; exact .inr (by omega)⟩

theorem hr_update_loop (h : HR w hb fp most cs) (r to : Nat) (c : HC) (hr : cs[r]? = some c) (ht : to < cs.length) (hk : c.kind = 2) (hf : fol cs cs.length to = some r) :
    Calls Try.prog 12 #[.pointer (some ⟨hb, 0, none⟩), .int .i64 r, .int .i64 to] w fun e w' => e = .returned (.int .i64 14) ∧ w = w' := by
  obtain ⟨cv, vs, h1, rfl⟩ := h
  exact update_loop h1 r to c hr ht hk hf

theorem hr_read (h : HR w hb fp most cs) (r t : Nat) (c : HC) (hr : r < cs.length) (hf : fol cs cs.length r = some t) (hc : cs[t]? = some c) (hlc : c.refs.length ≤ 4096) :
    Calls Try.prog 13 #[.pointer (some ⟨hb, 0, none⟩), .int .i64 r] w fun e w' => ∃ a cap, e = .returned (.tuple #[.agg #[.int .i64 c.kind, .int .i64 c.num, .slice a c.refs.length cap], .int .i64 t, .int .i64 0]) ∧
      w'.ownsRow w.heap.size 3 1 (.slice a c.refs.length cap) c.refs.length (ints c.refs) ∧ Frm [] w w' := by
  obtain ⟨cv, vs, h1, rfl⟩ := h
  exact read_yes h1 r t c hr hf hc hlc

theorem hr_size (h : HR w hb fp most cs) :
    Calls Try.prog 21 #[.pointer (some ⟨hb, 0, none⟩)] w fun e w' => e = .returned (.int .i64 cs.length) ∧ w = w' := by
  obtain ⟨cv, vs, h1, rfl⟩ := h
  exact size_any h1

theorem nil_ints (w : World) : IntsAt w (.slice none 0 0) [] := .inl ⟨rfl, rfl⟩
end

theorem notin_step {L : Nat} {fp fq : List Nat} {w : World} (h : L ∉ fp) (hl : L < w.heap.size) (hs : ∀ x ∈ fq, x ∈ fp ∨ w.heap.size ≤ x) : L ∉ fq := by
  intro hm
  rcases hs L hm with h1 | h1
  · exact h h1
  · omega

theorem ge_step {B : Nat} {fp fq : List Nat} {w : World} (h : ∀ x ∈ fp, B ≤ x) (hl : B ≤ w.heap.size) (hs : ∀ x ∈ fq, x ∈ fp ∨ w.heap.size ≤ x) : ∀ x ∈ fq, B ≤ x := by
  intro x hm
  rcases hs x hm with h1 | h1
  · exact h x h1
  · omega

theorem Frm.all {B : Nat} {fp fq : List Nat} {a b c : World} (h : Frm fp a b) (k : Frm fq b c) (hq : ∀ x ∈ fq, B ≤ x) (hB : B = a.heap.size) : Frm fp a c :=
  h.trans k (fun x hx => .inr (hB ▸ hq x hx))

set_option maxRecDepth 100000 in
set_option maxHeartbeats 1000000 in
theorem awake_any (w : World) : Calls Try.prog 9 #[] w fun e w' => e = .returned (.bool true) ∧ Frm [] w w' := by
  go_enter Try.func9, Try.ntmps9
  go_wp2_with fail
  refine (hr_new 4 _ (by decide) (by decide)).mono ?_
  rintro e w1 ⟨rfl, f1, h1⟩
  go_wp2_with fail
  refine (hr_alloc h1 1 7 _ [] (nil_ints _) (.inl rfl) (by decide) (by decide) (by decide)).mono ?_
  rintro e w2 ⟨rfl, fp2, h2, f2, s2⟩
  have g2 := ge_step (B := w.heap.size) (fp := [w.heap.size]) (by simp) f1.size s2
  have F2 := f1.all f2 (B := w.heap.size) (by simp) rfl
  clear f1 f2 s2 h1
  go_wp2_with fail
  refine (hr_enter_thunk h2 0 0 7 [] (by decide) rfl rfl).mono ?_
  rintro e w3 ⟨a3, c3, rfl, _, fp3, h3, f3, s3⟩
  have g3 := ge_step g2 F2.size s3
  have F3 := F2.all f3 g2 rfl
  clear F2 f3 g2 s3 h2
  have fa : Frm [] w3 (w3.alloc (.cells #[.int .i64 1, .int .i64 7, .slice a3 0 c3] 32)) := (Frm.refl _ _).alloc _
  have h3' := h3.frm fa (by simp)
  have L3 : w3.heap.size ∉ fp3 := fun hm => by have := h3.lt _ hm; omega
  have r3 := RowAt.made w3 32 [.int .i64 1, .int .i64 7, .slice a3 0 c3] #[.int .i64 1, .int .i64 7, .slice a3 0 c3] rfl
  have F3' := F3.trans fa (by simp)
  clear F3 fa h3
  go_wp2_with fail
  refine (hr_enter_other h3' 0 0 ⟨2, 7, []⟩ (by decide) rfl rfl (by decide)).mono ?_
  rintro e w4 ⟨rfl, f4⟩
  have h4 := h3'.frm f4 (by simp)
  have r4 := r3.frm f4 (by simp)
  have F4 := F3'.trans f4 (by simp)
  clear F3' f4 h3' r3
  have fb : Frm [] w4 (w4.alloc (.cells zcell 32)) := (Frm.refl _ _).alloc _
  have h4' := h4.frm fb (by simp)
  have r4' := r4.frm fb (by simp)
  have F4' := F4.trans fb (by simp)
  clear F4 fb h4 r4
  go_wp2_with fail
  refine (hr_alloc h4' 4 9 _ [] (nil_ints _) (.inr (by decide)) (by decide) (by decide) (by decide)).mono ?_
  rintro e w5 ⟨rfl, fp5, h5, f5, s5⟩
  have g5 := ge_step g3 F4'.size s5
  have F5 := F4'.all f5 g3 rfl
  have r5 := r4'.frm f5 L3
  have L5 := notin_step L3 r4'.lt s5
  clear F4' f5 s5 g3 r4' L3 h4'
  go_wp2_with fail
  refine (hr_update_ok h5 0 1 1 7 [] rfl (by decide) rfl (by decide)).mono ?_
  rintro e w6 ⟨rfl, fp6, h6, f6, s6⟩
  have g6 := ge_step g5 F5.size s6
  have F6 := F5.all f6 g5 rfl
  have r6 := r5.frm f6 L5
  have L6 := notin_step L5 r5.lt s6
  clear F5 f6 s6 g5 r5 L5 h5
  go_wp2_with fail
  refine (hr_read h6 0 1 ⟨4, 9, []⟩ (by decide) rfl rfl (by decide)).mono ?_
  rintro e w7 ⟨a7, c7, rfl, _, f7⟩
  have h7 := h6.frm f7 (by simp)
  have r7 := r6.frm f7 (by simp)
  have F7 := F6.trans f7 (by simp)
  clear F6 f7 r6 h6
  have fc : Frm [] w7 (w7.alloc (.cells #[.int .i64 4, .int .i64 9, .slice a7 0 c7] 32)) := (Frm.refl _ _).alloc _
  have h7' := h7.frm fc (by simp)
  have r7' := r7.frm fc (by simp)
  have q7 := (RowAt.made w7 32 [.int .i64 4, .int .i64 9, .slice a7 0 c7] #[.int .i64 4, .int .i64 9, .slice a7 0 c7] rfl).cell (i := 1) rfl
  have c7 := r7'.cell (i := 1) rfl
  have F7' := F7.trans fc (by simp)
  clear F7 fc h7 r7 r7' L6 g6
  go_wp2_with fail
  refine (hr_size h7').mono ?_
  rintro e w8 ⟨rfl, rfl⟩
  go_wp2
  go_ret
  exact ⟨rfl, F7'⟩

end Go.Proofs.Ytlpgonnionbkfaa
