/- Plain model of the disk: names, files, directories, pending operations. No program. -/
import GoSem.ClaimWide
namespace Go.Proofs.Ytkebdgbjgbcneaa

/-- A name: its bytes. -/
abbrev Nm := List UInt8
/-- A file: its bytes, and how many are durable. -/
structure FM where
  data : List UInt8
  safe : Nat
/-- A pending operation: 1 creation, 2 rename, 3 delete. -/
structure OpM where
  kind : Nat
  name : Nm
  to : Nm
  file : Nat
abbrev Dir := List (Nm × Nat)
structure DM where
  cap : Nat
  files : List FM
  dir : Dir
  safe : Dir
  ops : List OpM
  armed : Nat
  off : Bool
  count : Int

def findD (l : Dir) (s : Nm) : Option Nat := (l.find? fun p => p.1 == s).map (·.2)
def withoutD (l : Dir) (s : Nm) : Dir := l.filter fun p => !(p.1 == s)
def insD (s : Nm) (f : Nat) : Dir → Dir
  | [] => [(s, f)]
  | p :: r => if bytesBefore s p.1 then (s, f) :: p :: r else p :: insD s f r
def withD (l : Dir) (s : Nm) (f : Nat) : Dir := insD s f (withoutD l s)
def doneD (l : Dir) (o : OpM) : Dir :=
  if o.kind = 1 then withD l o.name o.file else if o.kind = 2 then withD (withoutD l o.name) o.to o.file else withoutD l o.name
def fileAt (fs : List FM) (i : Nat) : FM := fs.getD i ⟨[], 0⟩
def usedD (fs : List FM) (l : Dir) : Nat := (l.map fun p => (fileAt fs p.2).data.length).sum
def goodN (s : Nm) : Bool := decide (1 ≤ s.length ∧ s.length ≤ 32)
/-- A directory as it must be: names in rising order, no file under two names, files that are there. -/
structure DirOk (n : Nat) (l : Dir) : Prop where
  asc : l.Pairwise fun p q => bytesBefore p.1 q.1 = true
  one : (l.map (·.2)).Nodup
  file : ∀ p ∈ l, p.2 < n
  good : ∀ p ∈ l, goodN p.1 = true
  few : l.length ≤ 64

/-! The order of names. -/
theorem bb_irrefl : ∀ s : Nm, bytesBefore s s = false
  | [] => rfl
  | a :: r => by
    have := bb_irrefl r
    simp [bytesBefore, this]
theorem bb_asymm : ∀ {s t : Nm}, bytesBefore s t = true → bytesBefore t s = false
  | [], [], h => by cases h
  | [], _ :: _, _ => rfl
  | _ :: _, [], h => by cases h
  | a :: r, b :: u, h => by
    simp only [bytesBefore, Bool.or_eq_true, Bool.and_eq_true, decide_eq_true_eq, beq_iff_eq] at h
    simp only [bytesBefore, Bool.or_eq_false_iff, Bool.and_eq_false_iff, decide_eq_false_iff_not, beq_eq_false_iff_ne]
    rcases h with h | ⟨rfl, h⟩
    · exact ⟨UInt8.lt_asymm h, .inl (fun e => by subst e; exact UInt8.lt_irrefl _ h)⟩
    · exact ⟨UInt8.lt_irrefl _, .inr (bb_asymm h)⟩
theorem bb_total : ∀ {s t : Nm}, s ≠ t → bytesBefore s t = false → bytesBefore t s = true
  | [], [], h, _ => absurd rfl h
  | [], _ :: _, _, h => by cases h
  | _ :: _, [], _, _ => rfl
  | a :: r, b :: u, h, k => by
    simp only [bytesBefore, Bool.or_eq_false_iff, Bool.and_eq_false_iff, decide_eq_false_iff_not, beq_eq_false_iff_ne] at k
    simp only [bytesBefore, Bool.or_eq_true, Bool.and_eq_true, decide_eq_true_eq, beq_iff_eq]
    obtain ⟨k1, k2⟩ := k
    by_cases e : a = b
    · subst e
      refine .inr ⟨rfl, bb_total (fun e => h (by rw [e])) ?_⟩
      rcases k2 with k2 | k2
      · exact absurd rfl k2
      · exact k2
    · left
      rcases Nat.lt_or_gt_of_ne (fun e2 : a.toNat = b.toNat => e (UInt8.toNat_inj.1 e2)) with h1 | h1
      · exact absurd (UInt8.lt_iff_toNat_lt.2 h1) k1
      · exact UInt8.lt_iff_toNat_lt.2 h1
theorem bb_trans : ∀ {s t u : Nm}, bytesBefore s t = true → bytesBefore t u = true → bytesBefore s u = true
  | [], [], _, h, _ => by cases h
  | [], _ :: _, [], _, h => by cases h
  | [], _ :: _, _ :: _, _, _ => rfl
  | _ :: _, [], _, h, _ => by cases h
  | _ :: _, _ :: _, [], _, h => by cases h
  | a :: r, b :: s, c :: t, h, k => by
    simp only [bytesBefore, Bool.or_eq_true, Bool.and_eq_true, decide_eq_true_eq, beq_iff_eq] at h k ⊢
    rcases h with h | ⟨rfl, h⟩
    · rcases k with k | ⟨rfl, k⟩
      · exact .inl (UInt8.lt_trans h k)
      · exact .inl h
    · rcases k with k | ⟨rfl, k⟩
      · exact .inl k
      · exact .inr ⟨rfl, bb_trans h k⟩

section
variable {n : Nat} {l : Dir} {s t : Nm} {f : Nat}
theorem DirOk.nil : DirOk n [] := ⟨List.Pairwise.nil, List.nodup_nil, by simp, by simp, by simp⟩
theorem mem_withoutD {p : Nm × Nat} : p ∈ withoutD l s ↔ p ∈ l ∧ p.1 ≠ s := by simp [withoutD]
theorem mem_insD {p : Nm × Nat} : ∀ {l : Dir}, p ∈ insD s f l ↔ p = (s, f) ∨ p ∈ l
  | [] => by simp [insD]
  | q :: r => by
    rw [insD]
    split
    · simp
    · simp only [List.mem_cons, mem_insD (l := r)]
      constructor
      · rintro (h | h | h)
        · exact .inr (.inl h)
        · exact .inl h
        · exact .inr (.inr h)
      · rintro (h | h | h)
        · exact .inr (.inl h)
        · exact .inl h
        · exact .inr (.inr h)
theorem mem_withD {p : Nm × Nat} : p ∈ withD l s f ↔ p = (s, f) ∨ (p ∈ l ∧ p.1 ≠ s) := by rw [withD, mem_insD, mem_withoutD]
theorem insD_len : ∀ (l : Dir), (insD s f l).length = l.length + 1
  | [] => rfl
  | q :: r => by
    rw [insD]
    split
    · rfl
    · simp [insD_len r]
theorem insD_asc : ∀ {l : Dir}, (l.Pairwise fun p q => bytesBefore p.1 q.1 = true) → (∀ p ∈ l, p.1 ≠ s) → (insD s f l).Pairwise fun p q => bytesBefore p.1 q.1 = true
  | [], _, _ => by simp [insD]
  | q :: r, h, hn => by
    obtain ⟨h1, h2⟩ := List.pairwise_cons.1 h
    rw [insD]
    split
    · rename_i hb
      refine List.pairwise_cons.2 ⟨fun p hp => ?_, h⟩
      rcases List.mem_cons.1 hp with rfl | hp
      · exact hb
      · exact bb_trans hb (h1 p hp)
    · rename_i hb
      refine List.pairwise_cons.2 ⟨fun p hp => ?_, insD_asc h2 fun p hp => hn p (List.mem_cons_of_mem _ hp)⟩
      rcases mem_insD.1 hp with rfl | hp
      · exact bb_total (fun e => hn q List.mem_cons_self e.symm) (by simpa using hb)
      · exact h1 p hp
theorem insD_perm : ∀ (l : Dir), (insD s f l).Perm ((s, f) :: l)
  | [] => List.Perm.refl _
  | q :: r => by
    rw [insD]
    split
    · exact List.Perm.refl _
    · exact ((insD_perm r).cons q).trans (List.Perm.swap _ _ _)
theorem DirOk.without (h : DirOk n l) (s : Nm) : DirOk n (withoutD l s) where
  asc := h.asc.sublist List.filter_sublist
  one := h.one.sublist (List.filter_sublist.map _)
  file := fun p hp => h.file p (mem_withoutD.1 hp).1
  good := fun p hp => h.good p (mem_withoutD.1 hp).1
  few := Nat.le_trans (List.length_filter_le _ _) h.few
theorem DirOk.with (h : DirOk n l) (hs : goodN s = true) (hf : f < n) (hno : ∀ p ∈ l, p.1 ≠ s → p.2 ≠ f) (hfew : (withoutD l s).length < 64) : DirOk n (withD l s f) where
  asc := insD_asc (h.without s).asc fun p hp => (mem_withoutD.1 hp).2
  one := by
    have hp := ((insD_perm (s := s) (f := f) (withoutD l s)).map (·.2)).nodup_iff
    rw [withD, hp, List.map_cons, List.nodup_cons]
    refine ⟨fun hm => ?_, (h.without s).one⟩
    obtain ⟨p, hp, e⟩ := List.mem_map.1 hm
    obtain ⟨h1, h2⟩ := mem_withoutD.1 hp
    exact hno p h1 h2 e
  file := fun p hp => by
    rcases mem_withD.1 hp with rfl | ⟨hp, _⟩
    · exact hf
    · exact h.file p hp
  good := fun p hp => by
    rcases mem_withD.1 hp with rfl | ⟨hp, _⟩
    · exact hs
    · exact h.good p hp
  few := by rw [withD, insD_len]; omega
theorem DirOk.mono {m : Nat} (h : DirOk n l) (hm : n ≤ m) : DirOk m l := ⟨h.asc, h.one, fun p hp => Nat.lt_of_lt_of_le (h.file p hp) hm, h.good, h.few⟩
theorem findD_some (h : findD l s = some f) : (s, f) ∈ l := by
  rw [findD] at h
  obtain ⟨p, hp, rfl⟩ := Option.map_eq_some_iff.1 h
  have h1 := List.find?_some hp
  simp only [beq_iff_eq] at h1
  subst h1
  exact List.mem_of_find?_eq_some hp
theorem findD_none (h : findD l s = none) : ∀ p ∈ l, p.1 ≠ s := fun p hp e => by
  rw [findD, Option.map_eq_none_iff, List.find?_eq_none] at h
  exact h p hp (by simpa using e)
theorem asc_key {p q : Nm × Nat} (h : l.Pairwise fun p q => bytesBefore p.1 q.1 = true) (hp : p ∈ l) (hq : q ∈ l) (e : p.1 = q.1) : p = q := by
  induction h with
  | nil => cases hp
  | cons h1 _ ih =>
    rcases List.mem_cons.1 hp with rfl | hp'
    · rcases List.mem_cons.1 hq with rfl | hq'
      · rfl
      · have := h1 q hq'
        rw [e, bb_irrefl] at this
        cases this
    · rcases List.mem_cons.1 hq with rfl | hq'
      · have := h1 p hp'
        rw [e, bb_irrefl] at this
        cases this
      · exact ih hp' hq'
theorem findD_mem (h : DirOk n l) (hm : (s, f) ∈ l) : findD l s = some f := by
  cases hf : findD l s with
  | none => exact absurd rfl (findD_none hf _ hm)
  | some g =>
    have := asc_key h.asc hm (findD_some hf) rfl
    simp only [Prod.mk.injEq, true_and] at this
    rw [this]
end

end Go.Proofs.Ytkebdgbjgbcneaa
