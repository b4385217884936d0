/- Contract of the reference's insert. (Printed by wip/tools/kq.py.) -/
import Derived.Test.YtfndgiinniibfaaKP
namespace Go.Proofs.Ytfndgiinniibfaa.Ind
open Go.Shelf Go.RowKit Go.Lib Go.Sort

theorem insG_at {α : Type} [DecidableEq α] {lt : α → α → Bool} : ∀ {l : List α} {x : α} {k : Nat}, k ≤ l.length → (∀ (i : Nat) (y : α), i < k → l[i]? = some y → lt y x = true) → (∀ y, l[k]? = some y → lt y x = false) →
    insG lt l x = if l[k]? = some x then l else l.take k ++ x :: l.drop k
  | [], x, k, h, _, _ => by
    have : k = 0 := by simpa using h
    subst this
    simp [insG]
  | a :: r, x, 0, _, _, h2 => by
    have h3 := h2 a rfl
    rw [insG, if_neg (by rw [h3]; simp)]
    by_cases e : a = x
    · rw [if_pos e, if_pos (by rw [List.getElem?_cons_zero, e])]
    · rw [if_neg e, if_neg (by rw [List.getElem?_cons_zero]; simpa using e)]
      rfl
  | a :: r, x, k + 1, h, h1, h2 => by
    have h3 := h1 0 a (Nat.succ_pos _) rfl
    have ih := insG_at (l := r) (x := x) (k := k) (by simpa using h) (fun i y hi hy => h1 (i + 1) y (by omega) (by simpa using hy)) (fun y hy => h2 y (by simpa using hy))
    rw [insG, if_pos h3, ih, List.getElem?_cons_succ]
    split <;> simp
def lt6 (x y : M6) : Bool := ltM (toM x) (toM y)
theorem ins_map (l : List M6) (x : M6) : (insG lt6 l x).map toM = insG ltM (l.map toM) (toM x) := by
  induction l with
  | nil => rfl
  | cons a r ih =>
    rw [insG, List.map_cons, insG]
    by_cases h : ltM (toM a) (toM x) = true
    · rw [if_pos h, if_pos (show lt6 a x = true from h), List.map_cons, ih]
    · rw [if_neg h, if_neg (show ¬ lt6 a x = true from h)]
      by_cases e : a = x
      · rw [if_pos e, if_pos (by rw [e])]; rfl
      · rw [if_neg e, if_neg (fun h9 => e (toM_inj h9))]; rfl
theorem infoEd : (Try.prog.info? 100).map (fun i => (i.zero, i.size, i.bytes)) = some (some (.agg #[.int .i64 0, .int .i64 0, .int .i64 0, .int .i64 0, .int .i64 0, .int .i64 0]), 6, 48) := by kernel_rfl
theorem enc6_one (l : List M6) : ∀ u ∈ l.flatMap enc6, u.oneCell' = true := fun u hu => by
  obtain ⟨x, _, hx⟩ := List.mem_flatMap.1 hu
  exact one6 x u hx
theorem cfg_eq (w : World) (n : Nat) (s a b c d s' a' b' c' d' : Int) :
    (Op.equalIn (n + 1 + 1 + 1) 94 (.agg #[.int .i64 s, .int .i64 a, .int .i64 b, .int .i64 c, .int .i64 d]) (.agg #[.int .i64 s', .int .i64 a', .int .i64 b', .int .i64 c', .int .i64 d'])).run Try.prog w = .ok (decide (s = s') && (decide (a = a') && (decide (b = b') && (decide (c = c') && decide (d = d'))))) w := by
  have u3 := Try.underlying3
  have h4 := fun w n a0 a1 a2 a3 b0 b1 b2 b3 => arr4_eq w n a0 a1 a2 a3 b0 b1 b2 b3
  have hS : Try.prog.underlying 94 = some (.struct (Try.prog.fieldsOf 94)) := by kernel_rfl
  have hp : Try.prog.stoodInHeld 94 = false := by kernel_rfl
  rw [run_equalIn_agg w _ _ _ _ hS hp]
  simp only [Program.fieldsOf, Try.underlying94]
  go_simp
  by_cases h0 : s = s' <;> by_cases h1 : a = a' <;> by_cases h2 : b = b' <;> by_cases h3 : c = c' <;> by_cases h5 : d = d' <;> simp [h0, h1, h2, h3, h5]
theorem keyCfg : KeyS 94 p5V := by
  refine ⟨⟨_, Try.underlying94⟩, fun w x y => ?_, fun w em a => ?_⟩
  · obtain ⟨n, hn⟩ : ∃ n, 10000 = n + 1 + 1 + 1 := ⟨9997, rfl⟩
    rw [p5_eq]
    simp only [p5V, Op.equal, Op.maxDepth]
    rw [hn]
    exact cfg_eq w n _ _ _ _ _ _ _ _ _ _
  · have u3 := Try.underlying3
    have ht := Try.underlying94
    obtain ⟨n, hn⟩ : ∃ n, 10000 = n + 1 + 1 + 1 := ⟨9997, rfl⟩
    rw [hn]
    simp only [p5V, Instr.checkKey, Sem.run_bind, run_underlying ht, Result.andThen_ok]
    go_simp
    rw [show List.range' 0 4 = [0, 1, 2, 3] from rfl]
    go_simp
set_option maxRecDepth 100000 in
theorem eqE (w : World) (x y : M6) : (Op.equalIn 10000 100 (.agg (enc6 x).toArray) (.agg (enc6 y).toArray)).run Try.prog w = .ok (decide (x = y)) w := by
  have u3 := Try.underlying3
  have hS : Try.prog.underlying 100 = some (.struct (Try.prog.fieldsOf 100)) := by kernel_rfl
  have hp : Try.prog.stoodInHeld 100 = false := by kernel_rfl
  have h4 := fun w n s a b c d s' a' b' c' d' => cfg_eq w n s a b c d s' a' b' c' d'
  obtain ⟨n, hn⟩ : ∃ n, 10000 = n + 1 + 1 + 1 + 1 := ⟨9996, rfl⟩
  obtain ⟨e, s, a, b, c, d⟩ := x
  obtain ⟨e', s', a', b', c', d'⟩ := y
  simp only [enc6]
  rw [hn, run_equalIn_agg w _ _ _ _ hS hp]
  clear hn
  simp only [Program.fieldsOf, Try.underlying100]
  go_simp
  by_cases h0 : e = e' <;> by_cases h1 : s = s' <;> by_cases h5 : a = a' <;> by_cases h6 : b = b' <;> by_cases h7 : c = c' <;> by_cases h8 : d = d' <;> simp [h0, h1, h5, h6, h7, h8]
theorem guardE : Try.prog.eqGuardType Try.prog.depth 100 = false := by kernel_rfl

end Go.Proofs.Ytfndgiinniibfaa.Ind
