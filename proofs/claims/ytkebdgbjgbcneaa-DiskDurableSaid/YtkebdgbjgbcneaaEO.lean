/- Plain: durable bytes under a durable name outlive every call of act and every crash. No program. -/
import Derived.Test.YtkebdgbjgbcneaaD1
namespace Go.Proofs.Ytkebdgbjgbcneaa
open Go.RowKit

theorem findD_cons (p : Nm × Nat) (r : Dir) (t : Nm) : findD (p :: r) t = if (p.1 == t) = true then some p.2 else findD r t := by
  rw [findD, List.find?_cons]
  cases p.1 == t <;> simp [findD]
theorem findD_without {s t : Nm} (h : s ≠ t) : ∀ l : Dir, findD (withoutD l s) t = findD l t
  | [] => rfl
  | p :: r => by
    have ih := findD_without h r
    by_cases hp : p.1 = s
    · have h1 : (p.1 == t) = false := beq_eq_false_iff_ne.2 (fun e => h (hp.symm.trans e))
      rw [findD_cons, h1, if_neg (by decide), ← ih]
      rw [withoutD, List.filter_cons_of_neg (by simpa using hp)]
      rfl
    · rw [withoutD, List.filter_cons_of_pos (by simpa using hp), findD_cons, findD_cons]
      rw [show findD (List.filter (fun p => !(p.1 == s)) r) t = findD r t from ih]
theorem findD_ins {s t : Nm} (f : Nat) (h : s ≠ t) : ∀ l : Dir, findD (insD s f l) t = findD l t
  | [] => by
    rw [insD, findD_cons, if_neg (by simpa using h)]
  | p :: r => by
    have ih := findD_ins f h r
    rw [insD]
    split
    · rw [findD_cons (s, f), if_neg (by simpa using h)]
    · rw [findD_cons, findD_cons, ih]
theorem findD_with {s t : Nm} (f : Nat) (h : s ≠ t) (l : Dir) : findD (withD l s f) t = findD l t := by rw [withD, findD_ins f h, findD_without h]
/-- The operation does not speak of t. -/
def OpFree (o : OpM) (t : Nm) : Prop := o.name ≠ t ∧ (o.kind = 2 → o.to ≠ t)
theorem findD_done {o : OpM} {t : Nm} (h : OpFree o t) (l : Dir) : findD (doneD l o) t = findD l t := by
  rw [doneD]
  split
  · exact findD_with _ h.1 l
  · split
    · rename_i h2
      rw [findD_with _ (h.2 h2), findD_without h.1]
    · exact findD_without h.1 l
theorem fileAt_ne {fs : List FM} {i j : Nat} {f : FM} (h : j ≠ i) : fileAt (fs.set j f) i = fileAt fs i := by
  rw [fileAt, fileAt, List.getD_eq_getElem?_getD, List.getD_eq_getElem?_getD, List.getElem?_set_ne h]
/-- The first bytes of f are x, and they are durable. -/
def Pre (x : List UInt8) (f : FM) : Prop := x.length ≤ f.safe ∧ x <+: f.data
structure Sf (n : Nm) (x : List UInt8) (i : Nat) (m : DM) : Prop where
  nm : ∀ k, findD ((m.ops.take k).foldl doneD m.safe) n = some i
  il : i < m.files.length
  pre : Pre x (fileAt m.files i)
section
variable {n : Nm} {x : List UInt8} {i N : Nat} {m : DM}
theorem Sf.dir (h : Sf n x i m) (ho : DOk N m) : findD m.dir n = some i := by
  have := h.nm m.ops.length
  rwa [List.take_length, ← ho.dir] at this
theorem Sf.write (h : Sf n x i m) : Sf n x i (writeM m) :=
  ⟨by rw [writeM_ops, writeM_safe]; exact h.nm, by rw [writeM_files]; exact h.il, by rw [writeM_files]; exact h.pre⟩
theorem Sf.op (h : Sf n x i m) {o : OpM} (hf : OpFree o n) : Sf n x i (opM m o) := by
  refine ⟨fun k => ?_, h.il, h.pre⟩
  show findD (((m.ops ++ [o]).take k).foldl doneD m.safe) n = some i
  by_cases hk : k ≤ m.ops.length
  · rw [List.take_append_of_le_length hk]; exact h.nm k
  · rw [List.take_of_length_le (by rw [List.length_append, List.length_singleton]; omega), List.foldl_append]
    have := h.nm m.ops.length
    rw [List.take_length] at this
    exact (findD_done hf _).trans this
theorem Sf.add (h : Sf n x i m) (j : Nat) (b : List UInt8) : Sf n x i (addM m j b) := by
  refine ⟨h.nm, by show i < (m.files.set j _).length; rw [List.length_set]; exact h.il, ?_⟩
  show Pre x (fileAt (m.files.set j _) i)
  by_cases e : j = i
  · subst e
    rw [fileAt_set h.il, if_pos rfl]
    exact ⟨h.pre.1, h.pre.2.trans (List.prefix_append _ _)⟩
  · rw [fileAt_ne e]
    exact h.pre
theorem Sf.new (h : Sf n x i m) {s : Nm} (hs : s ≠ n) : Sf n x i (newM m s) := by
  have hof : OpFree ⟨1, s, [], m.files.length⟩ n := ⟨hs, fun e => by cases e⟩
  have h2 := h.op hof
  refine ⟨h2.nm, by show i < (m.files ++ [(⟨[], 0⟩ : FM)]).length; rw [List.length_append]; have := h.il; omega, ?_⟩
  show Pre x (fileAt (m.files ++ [(⟨[], 0⟩ : FM)]) i)
  rw [fileAt, List.getD_eq_getElem?_getD, List.getElem?_append_left h.il, ← List.getD_eq_getElem?_getD]
  exact h.pre
theorem Sf.append (h : Sf n x i m) (ho : DOk N m) (s : Nm) (b : List UInt8) : Sf n x i (appendM m s b).2 := by
  rw [appendM]
  split
  · exact h
  · split
    · exact h
    · split
      · exact h
      · show Sf n x i (putM (writeM m) s b)
        rw [putM]
        split
        · exact h.write.add _ _
        · rename_i hn
          refine (h.write.new (fun e => ?_)).add _ _
          have := h.write.dir ho.write
          rw [e, this] at hn
          cases hn
theorem Sf.sync (h : Sf n x i m) (ho : DOk N m) (s : Nm) : Sf n x i (syncM m s).2 := by
  rw [syncM]
  split
  · split
    · exact h.write
    · have h2 := h.write
      have hd := h2.dir ho.write
      obtain ⟨j, hj⟩ : ∃ j, j = (findD m.dir s).getD 0 := ⟨_, rfl⟩
      rw [← hj]
      refine ⟨fun k => ?_, by show i < ((writeM m).files.set j _).length; rw [List.length_set]; exact h2.il, ?_⟩
      · show findD ((([] : List OpM).take k).foldl doneD (writeM m).dir) n = some i
        rw [List.take_nil]
        exact hd
      · show Pre x (fileAt ((writeM m).files.set j _) i)
        by_cases e : j = i
        · subst e
          rw [fileAt_set h2.il, if_pos rfl]
          exact ⟨h2.pre.2.length_le, h2.pre.2⟩
        · rw [fileAt_ne e]
          exact h2.pre
  · exact h
theorem Sf.rename (h : Sf n x i m) {s t : Nm} (hs : s ≠ n) (ht : t ≠ n) : Sf n x i (renameM m s t).2 := by
  rw [renameM]
  split
  · split
    · exact h.write
    · exact h.write.op ⟨hs, fun _ => ht⟩
  · exact h
theorem Sf.delete (h : Sf n x i m) {s : Nm} (hs : s ≠ n) : Sf n x i (deleteM m s).2 := by
  rw [deleteM]
  split
  · split
    · exact h.write
    · exact h.write.op ⟨hs, fun e => by cases e⟩
  · exact h
theorem Sf.fail (h : Sf n x i m) (v : Int) : Sf n x i (failM m v) := by
  rw [failM]
  split
  · exact h
  · exact ⟨h.nm, h.il, h.pre⟩
theorem crashF_pre (keep : List Int) : ∀ (l : Dir) (k : Nat) (fs : List FM), i < fs.length → Pre x (fileAt fs i) → Pre x (fileAt (crashF keep l k fs) i)
  | [], _, _, _, h => h
  | p :: r, k, fs, hi, h => by
    rw [crashF]
    split
    · refine crashF_pre keep r _ _ (by rw [List.length_set]; exact hi) ?_
      by_cases e : p.2 = i
      · rw [e, fileAt_set hi, if_pos rfl]
        have h1 := h.1
        exact ⟨by show _ ≤ _ + _; omega, List.prefix_take_iff.2 ⟨h.2, by omega⟩⟩
      · rw [fileAt_ne e]
        exact h
    · exact crashF_pre keep r k fs hi h
theorem Sf.crash (h : Sf n x i m) (keep : List Int) : Sf n x i (crashM m keep) := by
  refine ⟨fun k => ?_, ?_, ?_⟩
  · show findD ((([] : List OpM).take k).foldl doneD (crashD m keep)) n = some i
    rw [List.take_nil]
    exact h.nm _
  · show i < (crashF keep (crashD m keep) 1 m.files).length
    rw [crashF_len]
    exact h.il
  · exact crashF_pre keep _ _ _ h.il h.pre
theorem Sf.read (h : Sf n x i m) (hg : goodN n = true) (keep : List Int) : (readM (crashM m keep) n).2 = 0 ∧ x <+: (readM (crashM m keep) n).1 := by
  have hc := h.crash keep
  have hd : findD (crashM m keep).dir n = some i := h.nm _
  have hm : missM (crashM m keep) n = 0 := by
    rw [missM, if_neg (by simp [crashM]), if_neg (by rw [hg]; decide), if_neg (by rw [hd]; simp)]
  rw [readM, if_pos hm, hd]
  exact ⟨rfl, hc.pre.2⟩
end
def nS : Nm := [115, 97, 102, 101]
theorem dur_append {x : List UInt8} (hx : x.length ≤ 20) : appendM (emptyM 1000) nS x = (0, ⟨1000, [⟨x, 0⟩], [(nS, 0)], [], [⟨1, nS, [], 0⟩], 0, false, 1⟩) := by
  have hf : fullM (emptyM 1000) nS x = false := by simp [fullM, emptyM, findD, usedD]; omega
  have hg : goodN nS = true := by decide
  rw [appendM, if_neg (by decide), if_neg (by rw [hg]; decide), if_neg (by rw [hf]; decide)]
  simp [writeM, emptyM, putM, findD, newM, addM, cutB, fileAt, withD, withoutD, insD, wrap64]
def dur0 (x : List UInt8) : DM := ⟨1000, [⟨x, x.length⟩], [(nS, 0)], [(nS, 0)], [], 0, false, 2⟩
theorem dur_sync {x : List UInt8} : syncM ⟨1000, [⟨x, 0⟩], [(nS, 0)], [], [⟨1, nS, [], 0⟩], 0, false, 1⟩ nS = (0, dur0 x) := by
  simp [syncM, missM, writeM, findD, sealM, fileAt, dur0, wrap64, goodN, nS]
theorem dur_sf (x : List UInt8) : Sf nS x 0 (dur0 x) :=
  ⟨fun k => by simp [dur0, findD], by simp [dur0], ⟨by simp [dur0, fileAt], by simp [dur0, fileAt]⟩⟩

end Go.Proofs.Ytkebdgbjgbcneaa
