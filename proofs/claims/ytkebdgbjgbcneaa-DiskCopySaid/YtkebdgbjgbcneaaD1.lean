/- Plain model of the disk: the calls, and what always holds. No program. -/
import Derived.Test.YtkebdgbjgbcneaaD0
import Derived.RowKit
namespace Go.Proofs.Ytkebdgbjgbcneaa
open Go.RowKit

def writeM (m : DM) : DM :=
  if 0 < m.armed then { m with count := wrap64 (m.count + 1), armed := m.armed - 1, off := decide (m.armed - 1 = 0) } else { m with count := wrap64 (m.count + 1) }
def fullM (m : DM) (s : Nm) (b : List UInt8) : Bool := decide ((findD m.dir s = none ∧ 64 ≤ m.dir.length) ∨ m.cap < usedD m.files m.dir + b.length)
def newM (m : DM) (s : Nm) : DM := { m with files := m.files ++ [⟨[], 0⟩], dir := withD m.dir s m.files.length, ops := m.ops ++ [⟨1, s, [], m.files.length⟩] }
def addM (m : DM) (i : Nat) (b : List UInt8) : DM := { m with files := m.files.set i ⟨(fileAt m.files i).data ++ b, (fileAt m.files i).safe⟩ }
def cutB (off : Bool) (b : List UInt8) : List UInt8 := if off = true then b.take (b.length / 2) else b
def putM (m : DM) (s : Nm) (b : List UInt8) : DM :=
  match findD m.dir s with
  | some i => addM m i (cutB m.off b)
  | none => addM (newM m s) m.files.length (cutB m.off b)
def appendM (m : DM) (s : Nm) (b : List UInt8) : Int × DM :=
  if m.off = true then (25, m) else if goodN s = false then (1, m) else if fullM m s b = true then (10, m) else (if (writeM m).off = true then 25 else 0, putM (writeM m) s b)
def missM (m : DM) (s : Nm) : Int := if m.off = true then 25 else if goodN s = false then 1 else if findD m.dir s = none then 21 else 0
def sealM (m : DM) (i : Nat) : DM := { m with files := m.files.set i ⟨(fileAt m.files i).data, (fileAt m.files i).data.length⟩, safe := m.dir, ops := [] }
def syncM (m : DM) (s : Nm) : Int × DM :=
  if missM m s = 0 then (if (writeM m).off = true then (25, writeM m) else (0, sealM (writeM m) ((findD m.dir s).getD 0))) else (missM m s, m)
def opM (m : DM) (o : OpM) : DM := { m with dir := doneD m.dir o, ops := m.ops ++ [o] }
def missRM (m : DM) (s t : Nm) : Int := if m.off = true then 25 else if goodN s = false ∨ goodN t = false then 1 else if findD m.dir s = none then 21 else 0
def renameM (m : DM) (s t : Nm) : Int × DM :=
  if missRM m s t = 0 then (if (writeM m).off = true then (25, writeM m) else (0, opM (writeM m) ⟨2, s, t, (findD m.dir s).getD 0⟩)) else (missRM m s t, m)
def deleteM (m : DM) (s : Nm) : Int × DM :=
  if missM m s = 0 then (if (writeM m).off = true then (25, writeM m) else (0, opM (writeM m) ⟨3, s, [], 0⟩)) else (missM m s, m)
def readM (m : DM) (s : Nm) : List UInt8 × Int := if missM m s = 0 then ((fileAt m.files ((findD m.dir s).getD 0)).data, 0) else ([], missM m s)
def namesM (m : DM) : List Nm := m.dir.map (·.1)
def failM (m : DM) (n : Int) : DM := if m.off = true then m else { m with armed := n.toNat }
def pickM (keep : List Int) (i : Nat) : Nat := (keep.getD i 0).toNat
def crashF (keep : List Int) : Dir → Nat → List FM → List FM
  | [], _, fs => fs
  | p :: r, at_, fs =>
    let x := fileAt fs p.2
    if x.safe < x.data.length then
      crashF keep r (at_ + 1) (fs.set p.2 ⟨x.data.take (x.safe + pickM keep at_ % (x.data.length - x.safe + 1)), x.safe + pickM keep at_ % (x.data.length - x.safe + 1)⟩)
    else crashF keep r at_ fs
def crashD (m : DM) (keep : List Int) : Dir := (m.ops.take (pickM keep 0 % (m.ops.length + 1))).foldl doneD m.safe
def crashM (m : DM) (keep : List Int) : DM :=
  { m with files := crashF keep (crashD m keep) 1 m.files, dir := crashD m keep, safe := crashD m keep, ops := [], armed := 0, off := false, count := 0 }
def emptyM (cap : Nat) : DM := ⟨cap, [], [], [], [], 0, false, 0⟩

def OpOk (n : Nat) (o : OpM) : Prop := (o.kind = 1 ∧ goodN o.name = true ∧ o.file < n) ∨ (o.kind = 2 ∧ goodN o.name = true ∧ goodN o.to = true ∧ o.file < n) ∨ (o.kind = 3 ∧ goodN o.name = true)
structure DOk (N : Nat) (m : DM) : Prop where
  dirs : ∀ k, DirOk m.files.length ((m.ops.take k).foldl doneD m.safe)
  dir : m.dir = m.ops.foldl doneD m.safe
  file : ∀ f ∈ m.files, f.safe ≤ f.data.length ∧ f.data.length ≤ 4194304
  ops : ∀ o ∈ m.ops, OpOk m.files.length o
  few1 : m.files.length ≤ N
  few2 : m.ops.length ≤ N
  cap : m.cap ≤ 4194304
  armed : (m.armed : Int) ≤ 9223372036854775807

theorem writeM_cap (m : DM) : (writeM m).cap = m.cap := by unfold writeM; split <;> rfl
theorem writeM_files (m : DM) : (writeM m).files = m.files := by unfold writeM; split <;> rfl
theorem writeM_dir (m : DM) : (writeM m).dir = m.dir := by unfold writeM; split <;> rfl
theorem writeM_safe (m : DM) : (writeM m).safe = m.safe := by unfold writeM; split <;> rfl
theorem writeM_ops (m : DM) : (writeM m).ops = m.ops := by unfold writeM; split <;> rfl
theorem fileAt_get {fs : List FM} {i : Nat} (h : i < fs.length) : fs[i]? = some (fileAt fs i) := by rw [fileAt, List.getD_eq_getElem?_getD, List.getElem?_eq_getElem h]; rfl
theorem fileAt_of {fs : List FM} {i : Nat} {f : FM} (h : fs[i]? = some f) : fileAt fs i = f := by rw [fileAt, List.getD_eq_getElem?_getD, h]; rfl
theorem fileAt_mem {fs : List FM} {i : Nat} (h : i < fs.length) : fileAt fs i ∈ fs := List.mem_of_getElem? (fileAt_get h)
theorem fileAt_set {fs : List FM} {i j : Nat} {f : FM} (h : i < fs.length) : fileAt (fs.set i f) j = if j = i then f else fileAt fs j := by
  by_cases e : j = i
  · subst e
    rw [if_pos rfl]
    exact fileAt_of (List.getElem?_set_self h)
  · rw [if_neg e, fileAt, fileAt, List.getD_eq_getElem?_getD, List.getD_eq_getElem?_getD, List.getElem?_set_ne (fun h => e h.symm)]
theorem withoutD_less {l : Dir} {s : Nm} {f : Nat} (h : (s, f) ∈ l) : (withoutD l s).length < l.length := by
  rw [withoutD]
  exact List.length_filter_lt_length_iff_exists.2 ⟨_, h, by simp⟩
theorem cutB_len (off : Bool) (b : List UInt8) : (cutB off b).length ≤ b.length := by
  unfold cutB
  split
  · rw [List.length_take]; omega
  · exact Nat.le_refl _

section
variable {N : Nat} {m : DM}
theorem DOk.dirOk (h : DOk N m) : DirOk m.files.length m.dir := by
  have := h.dirs m.ops.length
  rwa [List.take_length, ← h.dir] at this
theorem DOk.safeOk (h : DOk N m) : DirOk m.files.length m.safe := h.dirs 0
theorem DOk.mono {N' : Nat} (h : DOk N m) (hN : N ≤ N') : DOk N' m := ⟨h.dirs, h.dir, h.file, h.ops, Nat.le_trans h.few1 hN, Nat.le_trans h.few2 hN, h.cap, h.armed⟩
theorem DOk.empty {cap : Nat} (h : cap ≤ 4194304) : DOk 0 (emptyM cap) :=
  ⟨fun k => by simp only [emptyM, List.take_nil, List.foldl_nil]; exact DirOk.nil, rfl, by simp [emptyM], by simp [emptyM], Nat.le_refl _, Nat.le_refl _, h, by simp [emptyM]⟩
theorem DOk.write (h : DOk N m) : DOk N (writeM m) := by
  have ha := h.armed
  refine ⟨?_, ?_, ?_, ?_, ?_, ?_, ?_, ?_⟩
  · rw [writeM_files, writeM_ops, writeM_safe]; exact h.dirs
  · rw [writeM_dir, writeM_ops, writeM_safe]; exact h.dir
  · rw [writeM_files]; exact h.file
  · rw [writeM_files, writeM_ops]; exact h.ops
  · rw [writeM_files]; exact h.few1
  · rw [writeM_ops]; exact h.few2
  · rw [writeM_cap]; exact h.cap
  · unfold writeM
    split
    · show ((m.armed - 1 : Nat) : Int) ≤ _
      omega
    · exact ha
theorem DOk.fileAt (h : DOk N m) {i : Nat} (hi : i < m.files.length) : (fileAt m.files i).safe ≤ (fileAt m.files i).data.length ∧ (fileAt m.files i).data.length ≤ 4194304 := h.file _ (fileAt_mem hi)
theorem DOk.find (h : DOk N m) {s : Nm} {i : Nat} (hf : findD m.dir s = some i) : i < m.files.length := h.dirOk.file _ (findD_some hf)
theorem OpOk.mono {n n' : Nat} {o : OpM} (h : OpOk n o) (hn : n ≤ n') : OpOk n' o := by
  rcases h with ⟨h1, h2, h3⟩ | ⟨h1, h2, h3, h4⟩ | h
  · exact .inl ⟨h1, h2, Nat.lt_of_lt_of_le h3 hn⟩
  · exact .inr (.inl ⟨h1, h2, h3, Nat.lt_of_lt_of_le h4 hn⟩)
  · exact .inr (.inr h)
theorem dirs_snoc {n : Nat} {safe : Dir} {ops : List OpM} {o : OpM} (h : ∀ k, DirOk n ((ops.take k).foldl doneD safe)) (ho : DirOk n (doneD (ops.foldl doneD safe) o)) : ∀ k, DirOk n (((ops ++ [o]).take k).foldl doneD safe) := fun k => by
  by_cases hk : k ≤ ops.length
  · rw [List.take_append_of_le_length hk]; exact h k
  · rw [List.take_of_length_le (by rw [List.length_append, List.length_singleton]; omega), List.foldl_append]
    exact ho
theorem DOk.new (h : DOk N m) {s : Nm} (hs : goodN s = true) (hl : m.dir.length < 64) : DOk (N + 1) (newM m s) := by
  have hd := h.dirOk
  have hn : (newM m s).files.length = m.files.length + 1 := by simp [newM]
  have hw : DirOk (m.files.length + 1) (withD m.dir s m.files.length) := (hd.mono (Nat.le_succ _)).with hs (Nat.lt_succ_self _) (fun p hp _ e => by have := hd.file p hp; omega) (Nat.lt_of_le_of_lt (List.length_filter_le _ _) hl)
  refine ⟨?_, ?_, ?_, ?_, ?_, ?_, h.cap, h.armed⟩
  · rw [hn]
    refine dirs_snoc (fun k => (h.dirs k).mono (Nat.le_succ _)) ?_
    rw [show (newM m s).safe = m.safe from rfl, ← h.dir, doneD, if_pos rfl]
    exact hw
  · show withD m.dir s m.files.length = (m.ops ++ [_]).foldl doneD m.safe
    rw [List.foldl_append, ← h.dir]
    simp [doneD]
  · intro f hm
    rcases List.mem_append.1 hm with hm | hm
    · exact h.file f hm
    · rw [List.mem_singleton] at hm
      subst hm
      exact ⟨Nat.le_refl _, Nat.zero_le _⟩
  · intro o hm
    rw [hn]
    rcases List.mem_append.1 hm with hm | hm
    · exact (h.ops o hm).mono (Nat.le_succ _)
    · rw [List.mem_singleton] at hm
      subst hm
      exact .inl ⟨rfl, hs, Nat.lt_succ_self _⟩
  · rw [hn]; have := h.few1; omega
  · show (m.ops ++ [_]).length ≤ N + 1
    rw [List.length_append, List.length_singleton]
    have := h.few2
    omega
theorem DOk.files (h : DOk N m) {fs : List FM} (hl : fs.length = m.files.length) (hf : ∀ f ∈ fs, f.safe ≤ f.data.length ∧ f.data.length ≤ 4194304) : DOk N { m with files := fs } :=
  ⟨by show ∀ k, DirOk fs.length _; rw [hl]; exact h.dirs, h.dir, hf, by show ∀ o ∈ m.ops, OpOk fs.length o; rw [hl]; exact h.ops, by show fs.length ≤ N; rw [hl]; exact h.few1, h.few2, h.cap, h.armed⟩
theorem DOk.add (h : DOk N m) {i : Nat} (hi : i < m.files.length) {b : List UInt8} (hb : (FM.data (Go.Proofs.Ytkebdgbjgbcneaa.fileAt m.files i)).length + b.length ≤ 4194304) : DOk N (addM m i b) := by
  refine h.files (List.length_set ..) (fun f hm => ?_)
  rcases List.mem_or_eq_of_mem_set hm with hm | rfl
  · exact h.file f hm
  · have := h.fileAt hi
    simp only [List.length_append]
    omega
theorem DOk.op (h : DOk N m) {o : OpM} (ho : OpOk m.files.length o) (hd : DirOk m.files.length (doneD m.dir o)) : DOk (N + 1) (opM m o) := by
  refine ⟨dirs_snoc h.dirs (by show DirOk m.files.length (doneD (m.ops.foldl doneD m.safe) o); rw [← h.dir]; exact hd), ?_, h.file, fun x hx => ?_, Nat.le_succ_of_le h.few1, ?_, h.cap, h.armed⟩
  · show doneD m.dir o = (m.ops ++ [o]).foldl doneD m.safe
    rw [List.foldl_append, ← h.dir]; rfl
  · rcases List.mem_append.1 hx with hx | hx
    · exact h.ops x hx
    · rw [List.mem_singleton] at hx
      subst hx
      exact ho
  · show (m.ops ++ [o]).length ≤ N + 1
    rw [List.length_append, List.length_singleton]
    have := h.few2
    omega
theorem one_file {n : Nat} {l : Dir} (h : DirOk n l) {p q : Nm × Nat} (hp : p ∈ l) (hq : q ∈ l) (e : p.2 = q.2) : p = q := by
  have := h.one
  clear h
  induction l with
  | nil => cases hp
  | cons a r ih =>
    rw [List.map_cons, List.nodup_cons] at this
    rcases List.mem_cons.1 hp with rfl | hp'
    · rcases List.mem_cons.1 hq with rfl | hq'
      · rfl
      · exact absurd (List.mem_map.2 ⟨q, hq', e.symm⟩) this.1
    · rcases List.mem_cons.1 hq with rfl | hq'
      · exact absurd (List.mem_map.2 ⟨p, hp', e⟩) this.1
      · exact ih hp' hq' this.2
theorem DOk.rename (h : DOk N m) {s t : Nm} {i : Nat} (hs : goodN s = true) (ht : goodN t = true) (hf : findD m.dir s = some i) : DOk (N + 1) (opM m ⟨2, s, t, i⟩) := by
  have hd := h.dirOk
  have hm := findD_some hf
  refine h.op (.inr (.inl ⟨rfl, hs, ht, h.find hf⟩)) ?_
  rw [show doneD m.dir ⟨2, s, t, i⟩ = withD (withoutD m.dir s) t i from rfl]
  refine (hd.without s).with ht (h.find hf) (fun p hp _ e => ?_) ?_
  · obtain ⟨h1, h2⟩ := mem_withoutD.1 hp
    have := one_file hd h1 hm e
    subst this
    exact h2 rfl
  · have h1 := withoutD_less hm
    have h2 : (withoutD (withoutD m.dir s) t).length ≤ (withoutD m.dir s).length := List.length_filter_le _ _
    have := hd.few
    omega
theorem DOk.delete (h : DOk N m) {s : Nm} (hs : goodN s = true) : DOk (N + 1) (opM m ⟨3, s, [], 0⟩) := by
  refine h.op (.inr (.inr ⟨rfl, hs⟩)) ?_
  exact h.dirOk.without s
theorem DOk.seal (h : DOk N m) {i : Nat} (hi : i < m.files.length) : DOk N (sealM m i) := by
  have hl : (sealM m i).files.length = m.files.length := List.length_set ..
  refine ⟨fun k => ?_, rfl, fun f hm => ?_, fun o ho => (by cases ho), by rw [hl]; exact h.few1, Nat.zero_le _, h.cap, h.armed⟩
  · rw [hl]
    show DirOk _ ((([] : List OpM).take k).foldl doneD m.dir)
    rw [List.take_nil]
    exact h.dirOk
  · rcases List.mem_or_eq_of_mem_set hm with hm | rfl
    · exact h.file f hm
    · exact ⟨Nat.le_refl _, (h.fileAt hi).2⟩
theorem DOk.fail (h : DOk N m) {n : Int} (hn : n ≤ 9223372036854775807) : DOk N (failM m n) := by
  unfold failM
  split
  · exact h
  · exact ⟨h.dirs, h.dir, h.file, h.ops, h.few1, h.few2, h.cap, by show ((n.toNat : Nat) : Int) ≤ _; omega⟩
theorem crashF_len (keep : List Int) : ∀ (l : Dir) (k : Nat) (fs : List FM), (crashF keep l k fs).length = fs.length
  | [], _, _ => rfl
  | p :: r, k, fs => by
    rw [crashF]
    split
    · rw [crashF_len keep r, List.length_set]
    · exact crashF_len keep r k fs
theorem crashF_ok (keep : List Int) : ∀ (l : Dir) (k : Nat) (fs : List FM), (∀ p ∈ l, p.2 < fs.length) → (∀ f ∈ fs, f.safe ≤ f.data.length ∧ f.data.length ≤ 4194304) → ∀ f ∈ crashF keep l k fs, f.safe ≤ f.data.length ∧ f.data.length ≤ 4194304
  | [], _, _, _, h => h
  | p :: r, k, fs, hl, h => by
    rw [crashF]
    have hp := hl p List.mem_cons_self
    split
    · refine crashF_ok keep r _ _ (fun q hq => by rw [List.length_set]; exact hl q (List.mem_cons_of_mem _ hq)) (fun f hm => ?_)
      rcases List.mem_or_eq_of_mem_set hm with hm | rfl
      · exact h f hm
      · have := h _ (fileAt_mem hp)
        have hm : pickM keep k % ((Go.Proofs.Ytkebdgbjgbcneaa.fileAt fs p.2).data.length - (Go.Proofs.Ytkebdgbjgbcneaa.fileAt fs p.2).safe + 1) < (Go.Proofs.Ytkebdgbjgbcneaa.fileAt fs p.2).data.length - (Go.Proofs.Ytkebdgbjgbcneaa.fileAt fs p.2).safe + 1 := Nat.mod_lt _ (by omega)
        simp only [List.length_take]
        omega
    · exact crashF_ok keep r k fs (fun q hq => hl q (List.mem_cons_of_mem _ hq)) h
theorem DOk.crashDir (h : DOk N m) (keep : List Int) : DirOk m.files.length (crashD m keep) := h.dirs _
theorem DOk.crash (h : DOk N m) (keep : List Int) : DOk N (crashM m keep) := by
  have hl : (crashM m keep).files.length = m.files.length := crashF_len _ _ _ _
  refine ⟨fun k => ?_, rfl, ?_, fun o ho => (by cases ho), by rw [hl]; exact h.few1, Nat.zero_le _, h.cap, by show ((0 : Nat) : Int) ≤ _; decide⟩
  · rw [hl]
    show DirOk _ ((([] : List OpM).take k).foldl doneD (crashD m keep))
    rw [List.take_nil]
    exact h.crashDir keep
  · exact crashF_ok keep _ _ _ (h.crashDir keep).file h.file
theorem usedD_le {fs : List FM} (h : ∀ f ∈ fs, f.data.length ≤ 4194304) : ∀ (l : Dir), (∀ p ∈ l, p.2 < fs.length) → usedD fs l ≤ l.length * 4194304
  | [], _ => by simp [usedD]
  | p :: r, hl => by
    have h1 := usedD_le h r (fun q hq => hl q (List.mem_cons_of_mem _ hq))
    have h2 := h _ (fileAt_mem (hl p List.mem_cons_self))
    simp only [usedD, List.map_cons, List.sum_cons, List.length_cons] at h1 ⊢
    omega
theorem DOk.used (h : DOk N m) : usedD m.files m.dir ≤ 268435456 := by
  have h1 := usedD_le (fun f hf => (h.file f hf).2) m.dir h.dirOk.file
  have h2 := h.dirOk.few
  omega
end

end Go.Proofs.Ytkebdgbjgbcneaa
