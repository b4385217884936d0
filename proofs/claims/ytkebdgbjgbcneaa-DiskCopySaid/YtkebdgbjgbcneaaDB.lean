/- How the program's disk lies in memory; a range over its directory. -/
import Derived.Test.YtkebdgbjgbcneaaDA
namespace Go.Proofs.Ytkebdgbjgbcneaa
open Go.RowKit Go.Maps

def byt (b : List UInt8) : List Value := b.map fun x => Value.int .u8 (x.toNat : Int)
theorem byt_len (b : List UInt8) : (byt b).length = b.length := by simp [byt]
def opC (bs : Nat → Nat) (o : OpM) : List Value :=
  if o.kind = 1 then [str [], str o.name, .pointer (some ⟨bs o.file, 0, none⟩)] else if o.kind = 2 then [str o.name, str o.to, .pointer (some ⟨bs o.file, 0, none⟩)] else [str [], str o.name, .pointer none]
def opsC (bs : Nat → Nat) (os : List OpM) : List Value := os.flatMap (opC bs)
theorem opC_len (bs : Nat → Nat) (o : OpM) : (opC bs o).length = 3 := by
  unfold opC
  split
  · rfl
  · split <;> rfl
theorem opsC_len (bs : Nat → Nat) : ∀ os : List OpM, (opsC bs os).length = os.length * 3
  | [] => rfl
  | o :: r => by
    have := opsC_len bs r
    simp only [opsC, List.flatMap_cons, List.length_append, opC_len, List.length_cons] at this ⊢
    omega
theorem opsC_get (bs : Nat → Nat) : ∀ {os : List OpM} {i : Nat} {o : OpM}, os[i]? = some o → ∀ j, j < 3 → (opsC bs os)[i * 3 + j]? = (opC bs o)[j]?
  | [], i, o, h, j, hj => by simp at h
  | p :: r, 0, o, h, j, hj => by
    simp only [List.getElem?_cons_zero, Option.some.injEq] at h
    subst h
    rw [opsC, List.flatMap_cons, List.getElem?_append_left (by rw [opC_len]; omega), Nat.zero_mul, Nat.zero_add]
  | p :: r, i + 1, o, h, j, hj => by
    rw [List.getElem?_cons_succ] at h
    rw [opsC, List.flatMap_cons, List.getElem?_append_right (by rw [opC_len]; omega), opC_len, ← opsC_get bs h j hj]
    congr 1
    omega
theorem opsC_snoc (bs : Nat → Nat) (os : List OpM) (o : OpM) : opsC bs (os ++ [o]) = opsC bs os ++ opC bs o := by simp [opsC]

/-- A slice of bytes, the first of its block; behind its capacity the block may go on (after a cut). -/
def BufAt (w : World) (v : Value) (n : Nat) (xs : List UInt8) : Prop :=
  xs.length = n ∧ ((v = .slice none 0 0 ∧ n = 0) ∨ ∃ g cap cur, v = .slice (some ⟨g, 0, none⟩) n cap ∧ w.heap[g]? = some (.cells cur 5 (0, 0)) ∧ n ≤ cap ∧ cap ≤ maxLen ∧ cap ≤ cur.size ∧ cur.toList.take n = byt xs)
theorem BufAt.nil (w : World) : BufAt w (.slice none 0 0) 0 [] := ⟨rfl, .inl ⟨rfl, rfl⟩⟩
theorem BufAt.of_owns {w : World} {B n : Nat} {v : Value} {xs : List UInt8} (h : w.ownsRow B 5 1 v n (byt xs)) : BufAt w v n xs := by
  refine ⟨by have := h.1; rw [byt_len, Nat.mul_one] at this; exact this, ?_⟩
  rcases h.2 with h0 | ⟨g, cap, cur, h0, _, hg, h1, h2, h3, h4⟩
  · exact .inl h0
  · exact .inr ⟨g, cap, cur, h0, hg, h1, h2, by omega, by rw [Nat.mul_one] at h4; exact h4⟩
theorem BufAt.block {w w' : World} {v : Value} {n : Nat} {xs : List UInt8} (h : BufAt w v n xs) (hb : ∀ k, v.ownBlock = some k → w'.heap[k]? = w.heap[k]?) : BufAt w' v n xs := by
  refine ⟨h.1, ?_⟩
  rcases h.2 with h0 | ⟨g, cap, cur, rfl, hg, rest⟩
  · exact .inl h0
  · exact .inr ⟨g, cap, cur, rfl, by rw [hb g rfl]; exact hg, rest⟩
theorem buf_lt {w : World} {v : Value} {n : Nat} {xs : List UInt8} (h : BufAt w v n xs) {k : Nat} (hk : v.ownBlock = some k) : k < w.heap.size := by
  rcases h.2 with ⟨rfl, _⟩ | ⟨g, cap, cur, rfl, hg, _⟩
  · simp [Value.ownBlock] at hk
  · simp only [Value.ownBlock, Option.some.injEq] at hk
    subst hk
    exact (Array.getElem?_eq_some_iff.1 hg).1
theorem buf_frm {w w' : World} {v : Value} {n : Nat} {xs : List UInt8} (h : BufAt w v n xs) {fp : List Nat} (hf : Frm fp w w') (hn : ∀ k, v.ownBlock = some k → k ∉ fp) : BufAt w' v n xs :=
  h.block (fun k hk => hf.block k (buf_lt h hk) (hn k hk))
theorem buf_shape {w : World} {v : Value} {n : Nat} {xs : List UInt8} (h : BufAt w v n xs) : ∃ a cap, v = .slice a n cap ∧ (n : Int) ≤ 9223372036854775807 := by
  rcases h.2 with ⟨rfl, h0⟩ | ⟨g, cap, cur, rfl, hg, h1, h2, _⟩
  · exact ⟨none, 0, by rw [h0], by omega⟩
  · exact ⟨_, cap, rfl, by unfold maxLen at h2; omega⟩
theorem buf_row_ty {w : World} {v : Value} {n g2 e2 : Nat} {xs : List UInt8} {x2 : List Value} (h1 : BufAt w v n xs) (h2 : RowAt w g2 e2 x2) (hk : v.ownBlock = some g2) : 5 = e2 := by
  rcases h1.2 with ⟨rfl, _⟩ | ⟨g, cap, cur, rfl, hg, _⟩
  · simp [Value.ownBlock] at hk
  · obtain ⟨cur2, hg2, _⟩ := h2
    simp only [Value.ownBlock, Option.some.injEq] at hk
    subst hk
    rw [hg] at hg2
    cases hg2
    rfl
theorem own_buf_ty {B1 : Nat} {w : World} {e1 s1 n1 n2 : Nat} {v1 v2 : Value} {x1 : List Value} {x2 : List UInt8} (h1 : w.ownsRow B1 e1 s1 v1 n1 x1) (h2 : BufAt w v2 n2 x2) {k : Nat} (hk : v1.ownBlock = some k) (hk2 : v2.ownBlock = some k) : e1 = 5 := by
  rcases h1.2 with ⟨rfl, _⟩ | ⟨g, cp, cur, rfl, _, hg, _⟩
  · simp [Value.ownBlock] at hk
  · rcases h2.2 with ⟨rfl, _⟩ | ⟨g2, cp2, cur2, rfl, hg2, _⟩
    · simp [Value.ownBlock] at hk2
    · simp only [Value.ownBlock, Option.some.injEq] at hk hk2
      subst hk
      subst hk2
      rw [hg] at hg2
      cases hg2
      rfl
theorem buf_map_ne {n b : Nat} {w : World} {v : Value} {xs : List UInt8} {bs : Nat → Nat} {l : Dir} (h : BufAt w v n xs) (hm : MapD w b bs l) : v.ownBlock ≠ some b := fun hk => by
  rcases h.2 with ⟨rfl, _⟩ | ⟨g, cp, cur, rfl, hg, _⟩
  · simp [Value.ownBlock] at hk
  · simp only [Value.ownBlock, Option.some.injEq] at hk
    subst hk
    obtain ⟨es, clock, h1, h2⟩ := hm
    rw [hg] at h1
    cases h1

/-- The live files: a struct for each, and its bytes. -/
structure FilesAt (w : World) (bs : Nat → Nat) (vs : Nat → Value) (live : List Nat) (fs : List FM) : Prop where
  lt : ∀ i ∈ live, i < fs.length
  at_ : ∀ i ∈ live, RowAt w (bs i) 62 [vs i, .int .i64 ((fileAt fs i).safe : Int)]
  data : ∀ i ∈ live, BufAt w (vs i) (fileAt fs i).data.length (fileAt fs i).data
  inj1 : ∀ i ∈ live, ∀ j ∈ live, bs i = bs j → i = j
  inj2 : ∀ i ∈ live, ∀ j ∈ live, ∀ k, (vs i).ownBlock = some k → (vs j).ownBlock = some k → i = j
/-- The blocks of the files. -/
def fileB (bs : Nat → Nat) (vs : Nat → Value) (live : List Nat) : List Nat := live.map bs ++ live.flatMap fun i => (vs i).ownBlock.toList
theorem mem_fileB {bs : Nat → Nat} {vs : Nat → Value} {live : List Nat} {k : Nat} : k ∈ fileB bs vs live ↔ (∃ i ∈ live, bs i = k) ∨ ∃ i ∈ live, (vs i).ownBlock = some k := by
  simp only [fileB, List.mem_append, List.mem_map, List.mem_flatMap, Option.mem_toList]
/-- What the disk mentions. -/
structure Live (live : List Nat) (m : DM) : Prop where
  dir : ∀ p ∈ m.dir, p.2 ∈ live
  safe : ∀ p ∈ m.safe, p.2 ∈ live
  ops : ∀ o ∈ m.ops, o.kind ≠ 3 → o.file ∈ live
structure DR (w : World) (d b1 b2 : Nat) (pv : Value) (bs : Nat → Nat) (vs : Nat → Value) (live : List Nat) (m : DM) : Prop where
  hd : RowAt w d 58 [.int .i64 (m.cap : Int), .map (some b1), .map (some b2), pv, .int .i64 m.count, .int .i64 (m.armed : Int), .bool m.off]
  m1 : MapD w b1 bs m.dir
  m2 : MapD w b2 bs m.safe
  ne : b1 ≠ b2
  pend : w.ownsRow 0 65 3 pv m.ops.length (opsC bs m.ops)
  files : FilesAt w bs vs live m.files
  live : Live live m
def fpR (d b1 b2 : Nat) (pv : Value) (bs : Nat → Nat) (vs : Nat → Value) (live : List Nat) : List Nat := d :: b1 :: b2 :: (pv.ownBlock.toList ++ fileB bs vs live)
/-- The program's disk at d is m; fp: its blocks. -/
def PD (w : World) (d : Nat) (fp : List Nat) (m : DM) : Prop := ∃ b1 b2 pv bs vs live, DR w d b1 b2 pv bs vs live m ∧ fpR d b1 b2 pv bs vs live = fp
def PDStep (w w' : World) (d : Nat) (fp : List Nat) (m : DM) : Prop := ∃ fp', PD w' d fp' m ∧ Frm fp w w' ∧ ∀ x ∈ fp', x ∈ fp ∨ w.heap.size ≤ x

theorem own_ty {B1 B2 : Nat} {w : World} {e1 e2 s1 s2 n1 n2 : Nat} {v1 v2 : Value} {x1 x2 : List Value} (h1 : w.ownsRow B1 e1 s1 v1 n1 x1) (h2 : w.ownsRow B2 e2 s2 v2 n2 x2) {k : Nat} (hk : v1.ownBlock = some k) (hk2 : v2.ownBlock = some k) : e1 = e2 := by
  rcases h1.2 with ⟨rfl, _⟩ | ⟨g, cp, cur, rfl, _, hg, _⟩
  · simp [Value.ownBlock] at hk
  · rcases h2.2 with ⟨rfl, _⟩ | ⟨g2, cp2, cur2, rfl, _, hg2, _⟩
    · simp [Value.ownBlock] at hk2
    · simp only [Value.ownBlock, Option.some.injEq] at hk hk2
      subst hk
      subst hk2
      rw [hg] at hg2
      cases hg2
      rfl
theorem own_row_ty {B1 : Nat} {w : World} {e1 e2 s1 n1 : Nat} {v1 : Value} {x1 x2 : List Value} {g2 : Nat} (h1 : w.ownsRow B1 e1 s1 v1 n1 x1) (h2 : RowAt w g2 e2 x2) (hk : v1.ownBlock = some g2) : e1 = e2 := by
  rcases h1.2 with ⟨rfl, _⟩ | ⟨g, cp, cur, rfl, _, hg, _⟩
  · simp [Value.ownBlock] at hk
  · obtain ⟨cur2, hg2, _⟩ := h2
    simp only [Value.ownBlock, Option.some.injEq] at hk
    subst hk
    rw [hg] at hg2
    cases hg2
    rfl
theorem row_row_ty {w : World} {e1 e2 g : Nat} {x1 x2 : List Value} (h1 : RowAt w g e1 x1) (h2 : RowAt w g e2 x2) : e1 = e2 := by
  obtain ⟨c1, a1, _⟩ := h1
  obtain ⟨c2, a2, _⟩ := h2
  rw [a1] at a2
  cases a2
  rfl
theorem own_map_ne {B e size n b : Nat} {w : World} {v : Value} {xs : List Value} {bs : Nat → Nat} {l : Dir} (h : w.ownsRow B e size v n xs) (hm : MapD w b bs l) : v.ownBlock ≠ some b := fun hk => by
  rcases h.2 with ⟨rfl, _⟩ | ⟨g, cp, cur, rfl, _, hg, _⟩
  · simp [Value.ownBlock] at hk
  · simp only [Value.ownBlock, Option.some.injEq] at hk
    subst hk
    obtain ⟨es, clock, h1, h2⟩ := hm
    rw [hg] at h1
    cases h1

section
variable {w w' : World} {d b1 b2 : Nat} {pv : Value} {bs : Nat → Nat} {vs : Nat → Value} {live : List Nat} {m : DM} {fs : List FM} {fq : List Nat}
theorem FilesAt.frm (h : FilesAt w bs vs live fs) (hf : Frm fq w w') (hn : ∀ k ∈ fileB bs vs live, k ∉ fq) : FilesAt w' bs vs live fs where
  lt := h.lt
  at_ := fun i hi => (h.at_ i hi).frm hf (hn _ (mem_fileB.2 (.inl ⟨i, hi, rfl⟩)))
  data := fun i hi => buf_frm (h.data i hi) hf (fun k hk => hn k (mem_fileB.2 (.inr ⟨i, hi, hk⟩)))
  inj1 := h.inj1
  inj2 := h.inj2
theorem own_lt {e size n : Nat} {v : Value} {xs : List Value} (h : w.ownsRow 0 e size v n xs) {k : Nat} (hk : v.ownBlock = some k) : k < w.heap.size := (h.lt k hk).2
theorem FilesAt.blocks (h : FilesAt w bs vs live fs) : ∀ k ∈ fileB bs vs live, k < w.heap.size := fun k hk => by
  rcases mem_fileB.1 hk with ⟨i, hi, rfl⟩ | ⟨i, hi, hk⟩
  · exact (h.at_ i hi).lt
  · exact buf_lt (h.data i hi) hk
theorem DR.frm (h : DR w d b1 b2 pv bs vs live m) (hf : Frm fq w w') (hn : ∀ k ∈ fpR d b1 b2 pv bs vs live, k ∉ fq) : DR w' d b1 b2 pv bs vs live m where
  hd := h.hd.frm hf (hn _ (by simp [fpR]))
  m1 := h.m1.frm hf (hn _ (by simp [fpR]))
  m2 := h.m2.frm hf (hn _ (by simp [fpR]))
  ne := h.ne
  pend := owns_frm h.pend hf (fun k hk => hn _ (by simp [fpR, hk]))
  files := h.files.frm hf (fun k hk => hn _ (by simp [fpR, hk]))
  live := h.live
theorem DR.blocks (h : DR w d b1 b2 pv bs vs live m) : ∀ k ∈ fpR d b1 b2 pv bs vs live, k < w.heap.size := fun k hk => by
  simp only [fpR, List.mem_cons, List.mem_append, Option.mem_toList] at hk
  rcases hk with rfl | rfl | rfl | hk | hk
  · exact h.hd.lt
  · exact h.m1.lt
  · exact h.m2.lt
  · exact own_lt h.pend hk
  · exact h.files.blocks k hk
theorem PD.frm {fp : List Nat} (h : PD w d fp m) (hf : Frm fq w w') (hn : ∀ k ∈ fp, k ∉ fq) : PD w' d fp m := by
  obtain ⟨b1, b2, pv, bs, vs, live, h, rfl⟩ := h
  exact ⟨b1, b2, pv, bs, vs, live, h.frm hf hn, rfl⟩
theorem PD.lt {fp : List Nat} (h : PD w d fp m) : ∀ k ∈ fp, k < w.heap.size := by
  obtain ⟨b1, b2, pv, bs, vs, live, h, rfl⟩ := h
  exact h.blocks
theorem PDStep.step {fp : List Nat} (h : PD w d fp m) (hf : Frm [] w w') : PDStep w w' d fp m := ⟨fp, h.frm hf (by simp), hf.mono (by simp), fun _ hx => .inl hx⟩
theorem PDStep.trans {fp fp1 : List Nat} {w1 : World} {m1 : DM} (h1 : Frm fp w w1) (h2 : ∀ x ∈ fp1, x ∈ fp ∨ w.heap.size ≤ x) (s : PDStep w1 w' d fp1 m1) : PDStep w w' d fp m1 := by
  obtain ⟨fp', hp, hf, hs⟩ := s
  refine ⟨fp', hp, h1.trans hf h2, fun x hx => ?_⟩
  rcases hs x hx with h9 | h9
  · exact h2 x h9
  · exact .inr (Nat.le_trans h1.size h9)
end

/-! A range over a directory. -/
def sumL (g : Nm × Nat → Nat) (l : Dir) (left : Lit → Bool) : Nat := ((l.filter fun p => !left (.string p.1)).map g).sum
theorem sumL_none {g : Nm × Nat → Nat} : ∀ {l : Dir} {left : Lit → Bool}, (∀ p ∈ l, left (.string p.1) = true) → sumL g l left = 0
  | [], _, _ => rfl
  | p :: r, left, h => by
    have h1 := sumL_none (g := g) (l := r) (left := left) (fun q hq => h q (List.mem_cons_of_mem _ hq))
    unfold sumL at h1 ⊢
    rw [List.filter_cons_of_neg (by simp [h p List.mem_cons_self]), h1]
theorem sumL_all {g : Nm × Nat → Nat} {l : Dir} {left : Lit → Bool} (h : ∀ k, left k = false) : sumL g l left = (l.map g).sum := by
  unfold sumL
  rw [List.filter_eq_self.2 (fun p _ => by simp [h])]
theorem sumL_skip {g : Nm × Nat → Nat} : ∀ {l : Dir} {left : Lit → Bool} {s : Nm}, (∀ p ∈ l, p.1 ≠ s) → sumL g l (fun z => left z && !z.sameKey (.string s)) = sumL g l left
  | [], _, _, _ => rfl
  | p :: r, left, s, h => by
    have h1 := sumL_skip (g := g) (l := r) (left := left) (s := s) (fun q hq => h q (List.mem_cons_of_mem _ hq))
    have h2 : (p.1 == s) = false := beq_eq_false_iff_ne.2 (h p List.mem_cons_self)
    unfold sumL at h1 ⊢
    simp only [List.filter_cons, same_str, h2, Bool.not_false, Bool.and_true] at h1 ⊢
    split
    · rw [List.map_cons, List.map_cons, List.sum_cons, List.sum_cons, h1]
    · exact h1
theorem sumL_step {g : Nm × Nat → Nat} : ∀ {l : Dir} {left : Lit → Bool} {p : Nm × Nat}, (l.Pairwise fun p q => bytesBefore p.1 q.1 = true) → p ∈ l → left (.string p.1) = true → sumL g l (fun z => left z && !z.sameKey (.string p.1)) = sumL g l left + g p
  | [], _, _, _, h, _ => by cases h
  | q :: r, left, p, ha, hm, hl => by
    obtain ⟨h1, h2⟩ := List.pairwise_cons.1 ha
    rcases List.mem_cons.1 hm with rfl | hm'
    · have h3 := sumL_skip (g := g) (l := r) (left := left) (s := p.1) (fun q hq e => by
        have := h1 q hq
        rw [e, bb_irrefl] at this
        cases this)
      unfold sumL at h3 ⊢
      rw [List.filter_cons_of_pos (by simp [same_str]), List.filter_cons_of_neg (by simp [hl]), List.map_cons, List.sum_cons, h3]
      omega
    · have h3 := sumL_step (g := g) (l := r) (left := left) h2 hm' hl
      have hne : q.1 ≠ p.1 := fun e => by
        have := h1 p hm'
        rw [e, bb_irrefl] at this
        cases this
      have h4 : (q.1 == p.1) = false := beq_eq_false_iff_ne.2 hne
      unfold sumL at h3 ⊢
      simp only [List.filter_cons, same_str, h4, Bool.not_false, Bool.and_true] at h3 ⊢
      split
      · rw [List.map_cons, List.sum_cons, List.map_cons, List.sum_cons, h3]; omega
      · exact h3

section
variable {w : World} {ops : Array Oper} {rest : List Oper} {o : Oper} {a : Act} {Q : Exit → Act → World → Prop}
abbrev Rng (w : World) (b r : Nat) (bs : Nat → Nat) (l : Dir) (left : Lit → Bool) (cnt : Nat) : Prop := w.ranges Try.prog 9 rdP b r l.length (dirDat bs l) left cnt
theorem key_inv {key : Value} {kl : Lit} (h : keyOf Try.prog 9 key = some kl) : ∃ s : Nm, key = str s ∧ kl = .string s ∧ s.length ≤ maxLen := by
  rw [keyOf_string Try.underlying9] at h
  cases key <;> simp [mapKey, Try.underlying9] at h
  rename_i s
  obtain ⟨h1, rfl⟩ := h
  exact ⟨s.data.toList, by simp [str], rfl, by simpa using h1⟩
theorem wpl_range (hg : o.guard = none) (m : Operand) (hop : o.op = Op.range 55 m) (b : Nat) (bs : Nat → Nat) (l : Dir) (hm : a.eval m = .map (some b)) (hown : MapD w b bs l)
    (hK : ∀ w', Rng w' b w.heap.size bs l (fun k => has (dirDat bs l) k) l.length → Frm [] w w' → w'.heap.size = w.heap.size + 1 → wpList Try.prog ops Q rest (a.put o.dst (.pointer (some ⟨w.heap.size, 0, none⟩))) w') : wpList Try.prog ops Q (o :: rest) a w :=
  wpList_range_own w hg m 55 hop 9 59 keyed_s Try.underlying55 rdP b _ _ hm hown (fun w' h1 h2 h3 => hK w' (by rw [dir_size] at h1; exact h1) ((Frm.refl [] w).grown h2 (by simp)) h3)
theorem wpl_next (hg : o.guard = none) (it : Operand) (hop : o.op = Op.next it false) (b r : Nat) (bs : Nat → Nat) (l : Dir) (left : Lit → Bool) (cnt : Nat) (hit : a.eval it = .pointer (some ⟨r, 0, none⟩)) (h : Rng w b r bs l left cnt)
    (hDone : cnt = 0 → (∀ kl, left kl = false) → wpList Try.prog ops Q rest (a.put o.dst (.tuple #[.bool false])) w)
    (hMore : ∀ (s : Nm) (i : Nat) (w' : World) (cnt' : Nat), (s, i) ∈ l → left (.string s) = true → s.length ≤ maxLen → Rng w' b r bs l (fun z => left z && !z.sameKey (.string s)) cnt' → cnt' < cnt → Frm [r] w w' → w'.heap.size = w.heap.size →
      (Instr.entry (.pointer (some ⟨r, 0, none⟩))).run Try.prog w' = .ok (.tuple #[str s, .pointer (some ⟨bs i, 0, none⟩)]) w' → wpList Try.prog ops Q rest (a.put o.dst (.tuple #[.bool true, str s, .pointer (some ⟨bs i, 0, none⟩)])) w') :
    wpList Try.prog ops Q (o :: rest) a w := by
  refine wpList_next_ranges w hg it hop 9 keyed_s rdP (fun s : Nm => str s) (fun c : Option Nat => ptrO id c) (fun key kl hk => ?_) (fun v y hv => ?_) b r _ _ left cnt hit h hDone ?_
  · obtain ⟨s, rfl, _⟩ := key_inv hk
    exact ⟨s, rfl⟩
  · rcases rdP_inv hv with ⟨g, rfl, _⟩ | ⟨rfl, _⟩
    · exact ⟨some g, rfl⟩
    · exact ⟨none, rfl⟩
  · intro s c kl y w' cnt' hk hl hv hat hrg hlt hgr hsz hen
    obtain ⟨s', e1, rfl, hsl⟩ := key_inv hk
    obtain rfl : s = s' := by simpa [str] using e1
    have h1 := hat (.lit (.int .i64 (-1)))
    have h2 := hat .nil
    rw [dir_at] at h1
    cases hf : findD l s with
    | none =>
      exfalso
      rw [atKey_of_not_has (by rw [dir_has, hf]; rfl)] at h2
      rw [hf] at h1
      rw [← h1] at h2
      cases h2
    | some i =>
      rw [hf] at h1
      have h3 : (fun c : Option Nat => ptrO id c) c = ptrO bs (some i) := rdP_val (ps := y.2) (by rw [hv, h1])
      have h4 : ptrO id c = .pointer (some ⟨bs i, 0, none⟩) := h3
      have hen' : (Instr.entry (.pointer (some ⟨r, 0, none⟩))).run Try.prog w' = .ok (.tuple #[str s, ptrO id c]) w' := hen
      rw [h4] at hen'
      show wpList Try.prog ops Q rest (a.put o.dst (.tuple #[.bool true, str s, ptrO id c])) w'
      rw [h4]
      exact hMore s i w' cnt' (findD_some hf) hl hsl hrg hlt ((Frm.refl [r] w).grown hgr (fun k hk => .inl (by simpa using hk.symm))) hsz hen'
end

end Go.Proofs.Ytkebdgbjgbcneaa
