/- Texts WG, WP, WQ, WR. -/
import Derived.Test.YtikpcipkkhmcfaaGreatQ41
import Derived.Test.YtikpcipkkhmcfaaGreatQ36
/- Plain: what Of answers; example 1 of chapter 32. -/
namespace Go.Proofs.YtikpcipkkhmcfaaGreat.Beh
open Go.Shelf Go.RowKit Go.Lib Go.Sort Go.Maps Go.Proofs.YtikpcipkkhmcfaaGreat Go.Proofs.YtikpcipkkhmcfaaGreat.Ind

noncomputable def ofRes (l : Lts) (n : Int) : Int × List En := if validB l = true ∧ 0 ≤ n ∧ n ≤ 24 then (match ofL l n.toNat with | none => (10, []) | some st => (0, st.map (·.2))) else (1, [])
theorem beh_nil (w : World) (F : List Nat) : BehAt w F (.slice none 0 0) [] := ⟨[], rfl, RowV.nil0 _ _ _, by simp⟩
theorem OfEnd.res {w w' : World} {F : List Nat} {l : Lts} {n : Int} {e : Ending} (h : OfEnd w F l n e w') : (∃ a c, e = .returned (.tuple #[.slice a (ofRes l n).2.length c, .int .i64 (ofRes l n).1]) ∧ BehAt w' F (.slice a (ofRes l n).2.length c) (ofRes l n).2) ∧ Frm [] w w' := by
 obtain ⟨hf, h⟩ := h
 refine ⟨?_, hf⟩
 unfold ofRes
 split at h
 ·rename_i hc
  rw [if_pos hc]
  cases ho : ofL l n.toNat with
  | none =>
   rw [ho] at h
   exact ⟨none, 0, h, beh_nil _ _⟩
  | some st =>
   rw [ho] at h
   obtain ⟨a, c, h1, h2⟩ := h
   refine ⟨a, c, ?_, ?_⟩
   ·rw [h1]; simp
   ·simpa using h2
 ·rename_i hc
  rw [if_neg hc]
  exact ⟨none, 0, h, beh_nil _ _⟩

/-! Example 1. -/
def exS : Lts := [[(2, 1)], []]
def exB : List En := [([], [[2]], false), ([2], [[]], false)]
theorem exS_valid : validB exS = true := by decide
theorem exS_none : ∀ s, Esel exS true s = [] := by
 intro s
 match s with
 | 0 => decide
 | 1 => decide
 | s + 2 => rfl
theorem path_none {E : Nat → List Nat} (h : ∀ s, E s = []) {a b : Nat} (p : Path E a b) : a = b := by
 induction p with
 | refl a => rfl
 | step e _ _ => rw [h] at e; cases e
theorem reach_none {E : Nat → List Nat} (h : ∀ s, E s = []) {fr : List Nat} (ha : fr.Pairwise (· < ·)) : IsReach E fr fr :=
 ⟨ha, fun v => ⟨fun hv => ⟨v, hv, .refl v⟩, fun ⟨s, hs, p⟩ => by rw [← path_none h p]; exact hs⟩⟩
theorem ex_rch : rchN exS [0] = [0] := rch_eq (reach_none exS_none (by simp))
theorem ex_aft : aftN exS [0] 2 = [1] := by
 refine aft_eq (m := [1]) ⟨by simp, fun v => ?_⟩ (reach_none exS_none (by simp))
 have e : Aim exS 2 0 = [1] := by decide
 simp [e]
theorem ex_div (s : List Nat) : divB exS s = false := by
 rw [Bool.eq_false_iff]
 intro h
 obtain ⟨v, _, u, _, t, ht, _⟩ := divB_iff.1 h
 rw [exS_none] at ht
 cases ht
theorem ex_of : ofRes exS 2 = (0, exB) := by
 have h : ofL exS 2 = some [([0], ([], [[2]], false)), ([1], ([2], [[]], false))] := by
  unfold ofL ofB
  rw [ex_rch]
  have e0 : (wkL exS).ent [] [0] = ([], [[2]], false) := by
   show ([], minL (accN exS [0]), divB exS [0]) = _
   rw [ex_div, show minL (accN exS [0]) = [[2]] by decide]
  have e1 : (wkL exS).ent ([] ++ [2]) [1] = ([2], [[]], false) := by
   show ([2], minL (accN exS [1]), divB exS [1]) = _
   rw [ex_div, show minL (accN exS [1]) = [[]] by decide]
  rw [e0, show (16385 : Nat) = 16384 + 1 from rfl, of_step (p := ([0], ([], [[2]], false))) rfl (by decide)]
  have e2 : (wkL exS).ev [0] = [2] := by show evN exS [0] = _; decide
  have e3 : newE (wkL exS) [0] [] 2 = ([1], ([2], [[]], false)) := by
   show (aftN exS [0] 2, (wkL exS).ent ([] ++ [2]) (aftN exS [0] 2)) = _
   rw [ex_aft, e1]
  rw [e2, addL_cons (by decide), e3]
  simp only [addL, Option.bind_some, List.cons_append, List.nil_append, Nat.zero_add]
  rw [show (16384 : Nat) = 16383 + 1 from rfl, of_step (p := ([1], ([2], [[]], false))) rfl (by decide)]
  have e4 : (wkL exS).ev [1] = [] := by show evN exS [1] = _; decide
  rw [e4]
  simp only [addL, Option.bind_some]
  exact of_end (by decide)
 rw [ofRes, if_pos ⟨exS_valid, by omega, by omega⟩]
 show (match ofL exS 2 with | none => _ | some st => _) = _
 rw [h]; rfl
end Go.Proofs.YtikpcipkkhmcfaaGreat.Beh

/- The law's draw and finds. -/
namespace Go.Proofs.YtikpcipkkhmcfaaGreat.Beh
open Go.RowKit Go.Lib Go.Proofs.YtikpcipkkhmcfaaGreat Go.Proofs.YtikpcipkkhmcfaaGreat.Ind

set_option linter.unusedSimpArgs false in
set_option maxRecDepth 100000 in
set_option maxHeartbeats 4000000 in
theorem draw_any (B0 : Nat) (F : List Nat) (w : World) (tv : Value) (a : Option Addr) (cap : Nat) (l : Lts) (n : Int) (h0 : LAt B0 w a cap l) (hF : ∀ k ∈ F, k < w.heap.size) :
  Calls Tryz.prog 17 #[tv, .agg #[.slice a l.length cap], .int .i64 n] w fun e w' => (∃ a' c, e = .returned (.slice a' (ofRes l n).2.length c) ∧ BehAt w' F (.slice a' (ofRes l n).2.length c) (ofRes l n).2) ∧ Frm [] w w' := by
 obtain ⟨R, hR⟩ : ∃ R, R = ofRes l n := ⟨_, rfl⟩
 have HRF : Hid (∀ W, Frm [] w W → Calls Tryz.prog 38 #[.agg #[.slice a l.length cap], .int .i64 n] W fun e w' => (∃ a c, e = .returned (.tuple #[.slice a R.2.length c, .int .i64 R.1]) ∧ BehAt w' F (.slice a R.2.length c) R.2) ∧ Frm [] W w') := Lib.hid fun W hf => by
  rw [hR]
  exact (rof_any B0 F W a cap l n (h0.nil hf rfl) (fun k hk => Nat.lt_of_lt_of_le (hF k hk) hf.size)).mono fun _ _ h => h.res
 rw [← hR]
 have f0 : Frm [] w (w.alloc (.cells #[.slice a l.length cap] 25)) := (Frm.refl [] w).alloc _
 have HF0 := Lib.hid f0
 clear h0 hR f0 hF
 go_enter Tryz.func17, Tryz.ntmps17
 go_wp2_with (first
  | (go_at_call 38; refine (HRF.out _ HF0.out).mono ?_; rintro e2 w2 ⟨⟨a2, c2, rfl, hb2⟩, hf2⟩)
  | fail)
 go_ret
 exact ⟨⟨a2, c2, rfl, hb2⟩, HF0.out.trans hf2 (by simp)⟩
end Go.Proofs.YtikpcipkkhmcfaaGreat.Beh

/- The reference's Reach and After on rows of states, in short words. -/
namespace Go.Proofs.YtikpcipkkhmcfaaGreat.Beh
open Go.Shelf Go.RowKit Go.Lib Go.Sort Go.Maps Go.Proofs.YtikpcipkkhmcfaaGreat Go.Proofs.YtikpcipkkhmcfaaGreat.Ind

end Go.Proofs.YtikpcipkkhmcfaaGreat.Beh

/- The generator's Walk. -/
namespace Go.Proofs.YtikpcipkkhmcfaaGreat.Beh
open Go.Shelf Go.RowKit Go.Lib Go.Sort Go.Maps Go.Proofs.YtikpcipkkhmcfaaGreat Go.Proofs.YtikpcipkkhmcfaaGreat.Ind

end Go.Proofs.YtikpcipkkhmcfaaGreat.Beh
