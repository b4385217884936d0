/- Contract of lassos of the law: it answers true. -/
import Derived.Test.YtknfdpkfomlckaaCF
import Derived.Test.YtknfdpkfomlckaaZ4
namespace Go.Proofs.Ytknfdpkfomlckaa
open Go.RowKit

theorem LassoIs.unique {E : Nat → List Nat} {n : Nat} {v : Bool} {s : Int} {p c p' c' : List Nat} {ok ok' : Bool} (h : LassoIs E n v s p c ok) (h' : LassoIs E n v s p' c' ok') : ok = ok' ∧ p = p' ∧ c = c' := by
  cases ok with
  | true =>
    obtain ⟨h1, k, h2, h3, h4, h5⟩ := h.yes rfl
    cases ok' with
    | true =>
      obtain ⟨g1, k', g2, g3, g4, g5⟩ := h'.yes rfl
      obtain rfl : k = k' := by omega
      exact ⟨rfl, h5.unique g5⟩
    | false => exact absurd ⟨h1, k, h2, h3, h4⟩ (h'.no rfl).2.2
  | false =>
    obtain ⟨h1, h2, h3⟩ := h.no rfl
    cases ok' with
    | true =>
      obtain ⟨g1, k', g2, g3, g4, g5⟩ := h'.yes rfl
      exact absurd ⟨g1, k', g2, g3, g4⟩ h3
    | false =>
      obtain ⟨g1, g2, g3⟩ := h'.no rfl
      exact ⟨rfl, by rw [h1, g1], by rw [h2, g2]⟩
theorem lasso_some_ex {l : Lts} {s : Int} {p c : List Nat} {ok : Bool} (h : LassoIs (Esel l true) l.length (validB l) s p c ok) : ∀ k : Nat, s = k → k < l.length → validB l = true → Div (Esel l true) k → ∃ p c, IsLas (Esel l true) l.length k p c := by
  intro k hk hkl hv hd
  cases ok with
  | true =>
    obtain ⟨g1, k', g2, g3, g4, g5⟩ := h.yes rfl
    obtain rfl : k = k' := by omega
    exact ⟨p, c, g5⟩
  | false => exact absurd ⟨hv, k, hk, hkl, hd⟩ (h.no rfl).2.2
theorem ints_m (w w0 : World) (a b : Option Addr) (ca cb n : Nat) (xs : List Int) {B B' : Nat} (hn : xs.length = n) (h1 : w0.ownsRow B 3 1 (.slice a n ca) n (ints xs)) (h2 : w.ownsRow B' 3 1 (.slice b n cb) n (ints xs)) (hf : Frm [] w0 w) :
    Calls Try.prog 15 #[.slice a n ca, .slice b n cb] w fun e w' => e = .returned (.bool true) ∧ Frm [] w w' := by
  subst hn
  exact ints_eq w.heap.size a b ca cb xs w (rd_of_owns (ownsB_frm h1 hf (by simp)) (Nat.le_refl _)) (rd_of_owns h2 (Nat.le_refl _))

set_option linter.unusedSimpArgs false in
set_option maxRecDepth 100000 in
set_option maxHeartbeats 4000000 in
theorem lassos_any (B0 : Nat) (a : Option Addr) (cap : Nat) (l : Lts) (s : Int) (w : World) (h : LAt B0 w a cap l) :
    Calls Try.prog 24 #[.agg #[.slice a l.length cap], .int .i64 s] w fun e w' => e = .returned (.bool true) ∧ Frm [] w w' := by
  have f0 : Frm [] w (w.alloc (.cells #[.slice a l.length cap] 25)) := (Frm.refl [] w).alloc _
  have hcut0 := h.cut
  clear h
  have h := hcut0
  clear hcut0
  have HB := Lib.hid (box1 w (.slice a l.length cap) 25)
  have hla := lasso_any w.heap.size a cap l s _ (h.nil f0 rfl)
  have HL0 := Lib.hid (h.nil f0 rfl)
  clear h
  go_enter Try.func24, Try.ntmps24
  go_wp2_with fail
  refine hla.mono ?_
  rintro e1 w1 ⟨h1, hf1⟩
  obtain ⟨a1, c1, a2, c2, p, c, ok, rfl, o1, o2, hi⟩ := h1
  have hrl := rlasso_any w.heap.size a cap l s w1 (HL0.out.nil hf1 rfl) (lasso_some_ex hi)
  have hb1 := (HB.out.frm hf1 (by simp)).cell (i := 0) rfl
  have HF1 := Lib.hid hf1
  have HI := Lib.hid hi
  have O1 := Lib.hid o1
  have O2 := Lib.hid o2
  clear hla hf1 hi o1 o2
  go_wp2_with fail
  refine hrl.mono ?_
  rintro e2 w2 ⟨h2, hf2⟩
  obtain ⟨a3, c3, a4, c4, p', c', ok', rfl, o3, o4, hi2⟩ := h2
  obtain ⟨rfl, rfl, rfl⟩ := HI.out.unique hi2
  have O3 := Lib.hid o3
  have O4 := Lib.hid o4
  have HF2 := Lib.hid hf2
  have HFW := Lib.hid ((f0.trans HF1.out (by simp)).trans hf2 (by simp))
  have hbb : (ok == ok) = true := by simp
  have hI1 := ints_m w2 w1 a1 a3 c1 c3 p.length (natI p) (natI_len _) O1.out o3 hf2
  clear hrl hb1 hi2 o3 o4 hf2
  go_wp2_with fail
  refine hI1.mono ?_
  rintro e3 w3 ⟨rfl, hf3⟩
  have hI2 := ints_m w3 w1 a2 a4 c2 c4 c.length (natI c) (natI_len _) O2.out (ownsB_frm O4.out hf3 (by simp)) (HF2.out.trans hf3 (by simp))
  have HF3 := Lib.hid (HFW.out.trans hf3 (by simp))
  clear hI1 hf3
  go_wp2_with fail
  refine hI2.mono ?_
  rintro e4 w4 ⟨rfl, hf4⟩
  have HF4 := Lib.hid (HF3.out.trans hf4 (by simp))
  clear hI2 hf4
  go_wp2_with fail
  go_ret
  exact ⟨rfl, HF4.out⟩

end Go.Proofs.Ytknfdpkfomlckaa
