/- Things that a call owns, each with the blocks in which it lies: none lies in another's blocks; a step that turns one of them leaves the others. No program in sight. -/
import Derived.Test.YtikpcipkkhmcfaaGreatQ01
namespace Go.Proofs.YtikpcipkkhmcfaaGreat
open Go.RowKit

/-- A thing in memory: its blocks, and what is said of it. -/
structure Chunk where
 fp : List Nat
 P : World → Prop
 keep : ∀ w w', P w → (∀ k ∈ fp, k < w.heap.size → w'.heap[k]? = w.heap[k]?) → P w'
 lt : ∀ w, P w → ∀ k ∈ fp, k < w.heap.size

def Apart : List Chunk → Prop
 | [] => True
 | c :: r => (∀ d ∈ r, ∀ k ∈ c.fp, k ∉ d.fp) ∧ Apart r
/-- Since the world w0 only blocks that are newer have turned; the things cs lie in such blocks, apart. -/
structure Sep (w0 w : World) (cs : List Chunk) : Prop where
 frm : Frm [] w0 w
 all : ∀ c ∈ cs, c.P w ∧ ∀ k ∈ c.fp, w0.heap.size ≤ k
 apart : Apart cs

theorem Chunk.frm {c : Chunk} {fp : List Nat} {w w' : World} (h : c.P w) (hf : Frm fp w w') (hn : ∀ k ∈ c.fp, k ∉ fp) : c.P w' :=
 c.keep w w' h (fun k hk hl => hf.block k hl (hn k hk))
theorem Sep.start (w : World) : Sep w w [] := ⟨Frm.refl _ _, by simp, trivial⟩
theorem Sep.nil {w0 w w' : World} {cs : List Chunk} (h : Sep w0 w cs) (hf : Frm [] w w') : Sep w0 w' cs :=
 ⟨h.frm.trans hf (by simp), fun c hc => ⟨Chunk.frm (h.all c hc).1 hf (by simp), (h.all c hc).2⟩, h.apart⟩
theorem apart_get : ∀ {cs : List Chunk} (_ : Apart cs) {i j : Nat} {c d : Chunk}, cs[i]? = some c → cs[j]? = some d → i ≠ j → ∀ k ∈ c.fp, k ∉ d.fp
 | [], _, i, _, _, _, hi, _, _ => by simp at hi
 | x :: r, h, 0, 0, _, _, _, _, hn => absurd rfl hn
 | x :: r, h, 0, j + 1, c, d, hi, hj, _ => by
  simp only [List.getElem?_cons_zero, Option.some.injEq] at hi
  simp only [List.getElem?_cons_succ] at hj
  subst hi
  exact h.1 d (List.mem_of_getElem? hj)
 | x :: r, h, i + 1, 0, c, d, hi, hj, _ => by
  simp only [List.getElem?_cons_zero, Option.some.injEq] at hj
  simp only [List.getElem?_cons_succ] at hi
  subst hj
  intro k hk hd
  exact h.1 c (List.mem_of_getElem? hi) k hd hk
 | x :: r, h, i + 1, j + 1, c, d, hi, hj, hn => apart_get h.2 (by simpa using hi) (by simpa using hj) (by omega)
theorem apart_of {cs : List Chunk} (h : ∀ (i j : Nat) (c d : Chunk), cs[i]? = some c → cs[j]? = some d → i ≠ j → ∀ k ∈ c.fp, k ∉ d.fp) : Apart cs := by
 induction cs with
 | nil => trivial
 | cons x r ih =>
  refine ⟨fun d hd => ?_, ih (fun i j c d hi hj hn => h (i + 1) (j + 1) c d (by simpa using hi) (by simpa using hj) (by omega))⟩
  obtain ⟨j, hj⟩ := List.getElem?_of_mem hd
  exact h 0 (j + 1) x d rfl (by simpa using hj) (by omega)
/-- One thing turns into another. -/
theorem Sep.step {w0 w w' : World} {cs : List Chunk} (i : Nat) {c : Chunk} (c' : Chunk) (h : Sep w0 w cs) (hi : cs[i]? = some c) {fp : List Nat} (hf : Frm fp w w') (hfp : ∀ k ∈ fp, k ∈ c.fp ∨ w.heap.size ≤ k) (hp : c'.P w') (hn : ∀ k ∈ c'.fp, k ∈ c.fp ∨ w.heap.size ≤ k) : Sep w0 w' (cs.set i c') := by
 have hc := h.all c (List.mem_of_getElem? hi)
 refine ⟨h.frm.trans hf (fun k hk => ?_), fun d hd => ?_, apart_of (fun a b x y hx hy hab k hk hky => ?_)⟩
 ·rcases hfp k hk with h9 | h9
  ·exact .inr (hc.2 k h9)
  ·exact .inr (Nat.le_trans h.frm.size h9)
 ·obtain ⟨j, hj⟩ := List.getElem?_of_mem hd
  rw [List.getElem?_set] at hj
  split at hj
  ·split at hj
   ·cases hj
    refine ⟨hp, fun k hk => ?_⟩
    rcases hn k hk with h9 | h9
    ·exact hc.2 k h9
    ·exact Nat.le_trans h.frm.size h9
   ·cases hj
  ·rename_i hij
   have hd' := h.all d (List.mem_of_getElem? hj)
   refine ⟨Chunk.frm hd'.1 hf (fun k hk hm => ?_), hd'.2⟩
   rcases hfp k hm with h9 | h9
   ·exact apart_get h.apart hi hj hij k h9 hk
   ·have := d.lt w hd'.1 k hk
    omega
 ·rw [List.getElem?_set] at hx hy
  split at hx
  ·rename_i hia
   split at hx
   ·cases hx
    rw [if_neg (by omega)] at hy
    have hy' := h.all y (List.mem_of_getElem? hy)
    rcases hn k hk with h9 | h9
    ·exact apart_get h.apart hi hy (by omega) k h9 hky
    ·have := y.lt w hy'.1 k hky
     omega
   ·cases hx
  ·rename_i hia
   have hx' := h.all x (List.mem_of_getElem? hx)
   split at hy
   ·rename_i hib
    split at hy
    ·cases hy
     rcases hn k hky with h9 | h9
     ·exact apart_get h.apart hi hx (by omega) k h9 hk
     ·have := x.lt w hx'.1 k hk
      omega
    ·cases hy
   ·exact apart_get h.apart hx hy hab k hk hky
/-- A new thing. -/
theorem Sep.add {w0 w w' : World} {cs : List Chunk} (c' : Chunk) (h : Sep w0 w cs) (hf : Frm [] w w') (hp : c'.P w') (hn : ∀ k ∈ c'.fp, w.heap.size ≤ k) : Sep w0 w' (c' :: cs) := by
 have h' := h.nil hf
 refine ⟨h'.frm, fun d hd => ?_, ⟨fun d hd k hk hkd => ?_, h'.apart⟩⟩
 ·rcases List.mem_cons.1 hd with rfl | hd
  ·exact ⟨hp, fun k hk => Nat.le_trans h.frm.size (hn k hk)⟩
  ·exact h'.all d hd
 ·have := d.lt w (h.all d hd).1 k hkd
  have := hn k hk
  omega
/-- A thing is taken to the head. -/
theorem Sep.pull {w0 w : World} {cs : List Chunk} (h : Sep w0 w cs) (i : Nat) {c : Chunk} (hi : cs[i]? = some c) : Sep w0 w (c :: cs.eraseIdx i) := by
 have hsub : ∀ (j : Nat) (d : Chunk), (cs.eraseIdx i)[j]? = some d → ∃ j', j' ≠ i ∧ cs[j']? = some d ∧ (j' = if j < i then j else j + 1) := fun j d hj => by
  rw [List.getElem?_eraseIdx] at hj
  split at hj
  ·rename_i hlt
   exact ⟨j, by omega, hj, by rw [if_pos hlt]⟩
  ·rename_i hlt
   exact ⟨j + 1, by omega, hj, by rw [if_neg hlt]⟩
 refine ⟨h.frm, fun d hd => ?_, ⟨fun d hd => ?_, apart_of (fun a b x y hx hy hab => ?_)⟩⟩
 ·rcases List.mem_cons.1 hd with rfl | hd
  ·exact h.all _ (List.mem_of_getElem? hi)
  ·obtain ⟨j, hj⟩ := List.getElem?_of_mem hd
   obtain ⟨j', _, h2, _⟩ := hsub j d hj
   exact h.all d (List.mem_of_getElem? h2)
 ·obtain ⟨j, hj⟩ := List.getElem?_of_mem hd
  obtain ⟨j', h1, h2, _⟩ := hsub j d hj
  exact apart_get h.apart hi h2 (by omega)
 ·obtain ⟨a', _, h2, h3⟩ := hsub a x hx
  obtain ⟨b', _, h5, h6⟩ := hsub b y hy
  refine apart_get h.apart h2 h5 (fun e => ?_)
  rw [h3, h6] at e
  split at e <;> split at e <;> omega
theorem Sep.tail {w0 w : World} {c : Chunk} {cs : List Chunk} (h : Sep w0 w (c :: cs)) : Sep w0 w cs :=
 ⟨h.frm, fun d hd => h.all d (List.mem_cons_of_mem _ hd), h.apart.2⟩
theorem Sep.take {w0 w : World} {cs : List Chunk} (h : Sep w0 w cs) (n : Nat) : Sep w0 w (cs.take n) := by
 refine ⟨h.frm, fun d hd => h.all d (List.mem_of_mem_take hd), apart_of (fun a b x y hx hy hab => ?_)⟩
 rw [List.getElem?_take] at hx hy
 split at hx
 ·split at hy
  ·exact apart_get h.apart hx hy hab
  ·cases hy
 ·cases hx
/-- Two things are taken as one. -/
def Chunk.and (c d : Chunk) : Chunk where
 fp := c.fp ++ d.fp
 P := fun w => c.P w ∧ d.P w
 keep := fun w w' h hk => ⟨c.keep w w' h.1 (fun k hm => hk k (List.mem_append_left _ hm)), d.keep w w' h.2 (fun k hm => hk k (List.mem_append_right _ hm))⟩
 lt := fun w h k hk => by
  rcases List.mem_append.1 hk with h9 | h9
  ·exact c.lt w h.1 k h9
  ·exact d.lt w h.2 k h9
theorem Sep.join {w0 w : World} {c d : Chunk} {cs : List Chunk} (h : Sep w0 w (c :: d :: cs)) : Sep w0 w (c.and d :: cs) := by
 refine ⟨h.frm, fun x hx => ?_, ⟨fun x hx k hk => ?_, h.apart.2.2⟩⟩
 ·rcases List.mem_cons.1 hx with rfl | hx
  ·refine ⟨⟨(h.all c (by simp)).1, (h.all d (by simp)).1⟩, fun k hk => ?_⟩
   rcases List.mem_append.1 hk with h9 | h9
   ·exact (h.all c (by simp)).2 k h9
   ·exact (h.all d (by simp)).2 k h9
  ·exact h.all x (by simp [hx])
 ·rcases List.mem_append.1 hk with h9 | h9
  ·exact h.apart.1 x (List.mem_cons_of_mem _ hx) k h9
  ·exact h.apart.2.1 x hx k h9
theorem Sep.split {w0 w : World} {c d : Chunk} {cs : List Chunk} (h : Sep w0 w (c.and d :: cs)) (hcd : ∀ k ∈ c.fp, k ∉ d.fp) : Sep w0 w (c :: d :: cs) := by
 have h0 := h.all (c.and d) (by simp)
 refine ⟨h.frm, fun x hx => ?_, ⟨fun x hx k hk => ?_, ⟨fun x hx k hk => h.apart.1 x hx k (List.mem_append_right _ hk), h.apart.2⟩⟩⟩
 ·simp only [List.mem_cons] at hx
  rcases hx with rfl | rfl | hx
  ·exact ⟨h0.1.1, fun k hk => h0.2 k (List.mem_append_left _ hk)⟩
  ·exact ⟨h0.1.2, fun k hk => h0.2 k (List.mem_append_right _ hk)⟩
  ·exact h.all x (by simp [hx])
 ·rcases List.mem_cons.1 hx with rfl | hx
  ·exact hcd k hk
  ·exact h.apart.1 x hx k (List.mem_append_left _ hk)
theorem Sep.at_ {w0 w : World} {cs : List Chunk} (h : Sep w0 w cs) (i : Nat) {c : Chunk} (hi : cs[i]? = some c) : c.P w := (h.all c (List.mem_of_getElem? hi)).1
theorem Sep.le {w0 w : World} {cs : List Chunk} (h : Sep w0 w cs) (i : Nat) {c : Chunk} (hi : cs[i]? = some c) {k : Nat} (hk : k ∈ c.fp) : w0.heap.size ≤ k := (h.all c (List.mem_of_getElem? hi)).2 k hk
theorem Sep.ne {w0 w : World} {cs : List Chunk} (h : Sep w0 w cs) (i j : Nat) {c d : Chunk} (hi : cs[i]? = some c) (hj : cs[j]? = some d) (hij : i ≠ j) {k l : Nat} (hk : k ∈ c.fp) (hl : l ∈ d.fp) : k ≠ l := fun e => apart_get h.apart hi hj hij k hk (e ▸ hl)
theorem Sep.lt {w0 w : World} {cs : List Chunk} (h : Sep w0 w cs) (i : Nat) {c : Chunk} (hi : cs[i]? = some c) {k : Nat} (hk : k ∈ c.fp) : k < w.heap.size := c.lt w (h.all c (List.mem_of_getElem? hi)).1 k hk
/-- A thing stands through a step that turns another one. -/
theorem Sep.other {w0 w w' : World} {cs : List Chunk} (h : Sep w0 w cs) (i j : Nat) {c d : Chunk} (hi : cs[i]? = some c) (hj : cs[j]? = some d) (hij : i ≠ j) {fp : List Nat} (hf : Frm fp w w') (hfp : ∀ k ∈ fp, k ∈ c.fp ∨ w.heap.size ≤ k) : d.P w' := by
 have hd := h.all d (List.mem_of_getElem? hj)
 refine Chunk.frm hd.1 hf (fun k hk hm => ?_)
 rcases hfp k hm with h9 | h9
 ·exact apart_get h.apart hi hj hij k h9 hk
 ·have := d.lt w hd.1 k hk
  omega

/-- What a callee has made lies beside what the caller owns. -/
theorem Sep.append {w0 w w' : World} {cs ds : List Chunk} (h : Sep w0 w cs) (k : Sep w w' ds) : Sep w0 w' (ds ++ cs) := by
 have h' := h.nil k.frm
 refine ⟨h'.frm, fun c hc => ?_, apart_of (fun i j c d hi hj hn x hx hxd => ?_)⟩
 ·rcases List.mem_append.1 hc with hc | hc
  ·exact ⟨(k.all c hc).1, fun x hx => Nat.le_trans h.frm.size ((k.all c hc).2 x hx)⟩
  ·exact h'.all c hc
 ·rw [List.getElem?_append] at hi hj
  have hlow : ∀ c ∈ cs, ∀ x ∈ c.fp, x < w.heap.size := fun c hc x hx => c.lt w (h.all c hc).1 x hx
  split at hi <;> split at hj
  ·exact apart_get k.apart hi hj hn x hx hxd
  ·have h1 := (k.all c (List.mem_of_getElem? hi)).2 x hx
   have h2 := hlow d (List.mem_of_getElem? hj) x hxd
   omega
  ·have h1 := (k.all d (List.mem_of_getElem? hj)).2 x hxd
   have h2 := hlow c (List.mem_of_getElem? hi) x hx
   omega
  ·exact apart_get h'.apart hi hj (by omega) x hx hxd

/-- A row of the call's own. -/
def ownC (e : TypeId) (size : Nat) (v : Value) (n : Nat) (xs : List Value) : Chunk where
 fp := v.ownBlock.toList
 P := fun w => w.ownsRow 0 e size v n xs
 keep := fun w w' h hk => owns_of_block h (fun k hb => hk k (by simp [hb]) (h.lt k hb).2)
 lt := fun w h k hk => (h.lt k (by simpa using hk)).2
/-- A box or a row in a block of its own. -/
def boxC (b : Nat) (e : TypeId) (xs : List Value) : Chunk where
 fp := [b]
 P := fun w => RowAt w b e xs
 keep := fun w w' h hk => h.of_block (hk b (by simp) h.lt)
 lt := fun w h k hk => by rw [List.mem_singleton.1 hk]; exact h.lt
/-- No two of the values lie in one block. -/
def DisU (us : List Value) : Prop := ∀ (i j : Nat) (u v : Value), us[i]? = some u → us[j]? = some v → ∀ k, u.ownBlock = some k → v.ownBlock = some k → i = j
/-- A row of rows, all of the call's own. -/
def ownsC {α : Type} (eo e : TypeId) (size : Nat) (enc : List α → List Value) (v : Value) (us : List Value) (rows : List (List α)) : Chunk where
 fp := v.ownBlock.toList ++ us.flatMap (fun u => u.ownBlock.toList)
 P := fun w => w.ownsRow 0 eo 1 v rows.length us ∧ ((∀ u ∈ us, u.oneCell' = true) ∧ DisU us) ∧ ∀ (i : Nat) (r : List α), rows[i]? = some r → ∃ u, us[i]? = some u ∧ w.ownsRow 0 e size u r.length (enc r)
 keep := fun w w' h hk => ⟨owns_of_block h.1 (fun k hb => hk k (List.mem_append_left _ (by simp [hb])) (h.1.lt k hb).2), h.2.1, fun i r hr => by
  obtain ⟨u, hu, ho⟩ := h.2.2 i r hr
  exact ⟨u, hu, owns_of_block ho (fun k hb => hk k (List.mem_append_right _ (List.mem_flatMap.2 ⟨u, List.mem_of_getElem? hu, by simp [hb]⟩)) (ho.lt k hb).2)⟩⟩
 lt := fun w h k hk => by
  rcases List.mem_append.1 hk with h9 | h9
  ·exact (h.1.lt k (by simpa using h9)).2
  ·obtain ⟨u, hu, hb⟩ := List.mem_flatMap.1 h9
   obtain ⟨i, hi⟩ := List.getElem?_of_mem hu
   have hl : us.length = rows.length := by have := h.1.1; omega
   obtain ⟨r, hr⟩ : ∃ r, rows[i]? = some r := ⟨_, List.getElem?_eq_getElem (by rw [← hl]; exact (List.getElem?_eq_some_iff.1 hi).1)⟩
   obtain ⟨u', hu', ho⟩ := h.2.2 i r hr
   rw [hi] at hu'
   cases hu'
   exact (ho.lt k (by simpa using hb)).2
theorem ownC_of {w : World} {B e size n : Nat} {v : Value} {xs : List Value} (h : w.ownsRow B e size v n xs) : (ownC e size v n xs).P w := ownsB_mono h (Nat.zero_le _)
theorem ownC_new {w w' : World} {e size n : Nat} {v : Value} {xs : List Value} (h : w'.ownsRow w.heap.size e size v n xs) : ∀ k ∈ (ownC e size v n xs).fp, w.heap.size ≤ k := fun k hk => (h.lt k (by simpa [ownC] using hk)).1
theorem fresh_own {e e' s s' n n' H : Nat} {v v' : Value} {xs ys : List Value} (h : ∀ k, v'.ownBlock = some k → v.ownBlock = some k ∨ k = H) : ∀ k ∈ (ownC e s v' n ys).fp, k ∈ (ownC e' s' v n' xs).fp ∨ H ≤ k := fun k hk => by
 rcases h k (by simpa [ownC] using hk) with h9 | h9
 ·exact .inl (by simpa [ownC] using h9)
 ·exact .inr (Nat.le_of_eq h9.symm)
theorem ownC_nil (e size : TypeId) (w : World) : (ownC e size (.slice none 0 0) 0 []).P w := ⟨(Nat.zero_mul _).symm, .inl ⟨rfl, rfl⟩⟩
theorem ownsC_nil {α : Type} (eo e : TypeId) (size : Nat) (enc : List α → List Value) (w : World) : (ownsC eo e size enc (.slice none 0 0) [] []).P w := ⟨⟨rfl, .inl ⟨rfl, rfl⟩⟩, ⟨by simp, fun i j u v h => by simp at h⟩, by simp⟩
/-- Rows of elements of two types lie in two blocks. -/
theorem owns_ne {w : World} {B C e f size size' n m : Nat} {u v : Value} {xs ys : List Value} (h1 : w.ownsRow B e size u n xs) (h2 : w.ownsRow C f size' v m ys) (hef : e ≠ f) {k l : Nat} (hk : u.ownBlock = some k) (hl : v.ownBlock = some l) : k ≠ l := by
 rcases h1.2 with ⟨_, _⟩ | ⟨g, cp, cur, rfl, _, hg, _⟩
 ·rename_i h9 _
  subst h9
  simp [Value.ownBlock] at hk
 ·rcases h2.2 with ⟨_, _⟩ | ⟨g', cp', cur', rfl, _, hg', _⟩
  ·rename_i h9 _
   subst h9
   simp [Value.ownBlock] at hl
  ·simp [Value.ownBlock] at hk hl
   subst hk hl
   rintro rfl
   rw [hg] at hg'
   simp only [Option.some.injEq, Obj.cells.injEq] at hg'
   exact hef hg'.2.1
theorem ownsC_len {α : Type} {eo e : TypeId} {size : Nat} {enc : List α → List Value} {v : Value} {us : List Value} {rows : List (List α)} {w : World} (h : (ownsC eo e size enc v us rows).P w) : us.length = rows.length := by have := h.1.1; omega
theorem ownsC_in {α : Type} {eo e : TypeId} {size : Nat} {enc : List α → List Value} {v : Value} {us : List Value} {rows : List (List α)} {w : World} (h : (ownsC eo e size enc v us rows).P w) {i : Nat} {u : Value} (hi : us[i]? = some u) : ∃ r, rows[i]? = some r ∧ w.ownsRow 0 e size u r.length (enc r) := by
 obtain ⟨r, hr⟩ : ∃ r, rows[i]? = some r := ⟨_, List.getElem?_eq_getElem (by rw [← ownsC_len h]; exact (List.getElem?_eq_some_iff.1 hi).1)⟩
 obtain ⟨u', hu', ho⟩ := h.2.2 i r hr
 rw [hi] at hu'
 cases hu'
 exact ⟨r, hr, ho⟩
/-- One more row is put behind the rows. -/
theorem Sep.snoc {α : Type} {w0 w w' : World} {cs : List Chunk} {eo e size m n B : Nat} {enc : List α → List Value} {u v v' : Value} {us ws vs : List Value} {rows : List (List α)} {r : List α} (h : Sep w0 w (ownC e size u m ws :: ownsC eo e size enc v us rows :: cs)) (hm : m = r.length) (hws : ws = enc r) (hne : eo ≠ e) (hu : u.oneCell' = true) (ho : w'.ownsRow B eo 1 v' n vs) (hn : n = rows.length + 1) (hvs : vs = us ++ [u]) (hf : Frm v.ownBlock.toList w w') (hb : ∀ k, v'.ownBlock = some k → v.ownBlock = some k ∨ w.heap.size ≤ k) :
  Sep w0 w' (ownsC eo e size enc v' (us ++ [u]) (rows ++ [r]) :: cs) := by
 have hr0 := h.at_ 0 rfl
 have hR := h.at_ 1 rfl
 have hrw := h.other 1 0 rfl rfl (by omega) hf (fun k hk => .inl (List.mem_append_left _ hk))
 have hap : ∀ k, u.ownBlock = some k → k ∉ (ownsC eo e size enc v us rows).fp := fun k hk => h.apart.1 _ (by simp) k (by simp [ownC, hk])
 subst hm hws hn hvs
 have hl := ownsC_len hR
 refine h.join.step 0 _ rfl hf (fun k hk => .inl (List.mem_append_right _ (List.mem_append_left _ hk))) ⟨by rw [List.length_append, List.length_singleton]; exact ownsB_mono ho (Nat.zero_le _), ⟨fun z hz => ?_, fun i j x y hx hy k hkx hky => ?_⟩, fun i x hx => ?_⟩ (fun k hk => ?_)
 ·rcases List.mem_append.1 hz with hz | hz
  ·exact hR.2.1.1 z hz
  ·rw [List.mem_singleton.1 hz]; exact hu
 ·rw [List.getElem?_append] at hx hy
  split at hx
  ·split at hy
   ·exact hR.2.1.2 i j x y hx hy k hkx hky
   ·rename_i hi hj
    have : y = u := by
     by_cases hz : j - us.length = 0
     ·rw [hz] at hy; simpa using hy.symm
     ·rw [List.getElem?_eq_none (by simp; omega)] at hy; cases hy
    subst this
    exact absurd (List.mem_append_right _ (List.mem_flatMap.2 ⟨x, List.mem_of_getElem? hx, by simp [hkx]⟩)) (hap k hky)
  ·rename_i hi
   have hxu : x = u ∧ i = us.length := by
    by_cases hz : i - us.length = 0
    ·rw [hz] at hx; exact ⟨by simpa using hx.symm, by omega⟩
    ·rw [List.getElem?_eq_none (by simp; omega)] at hx; cases hx
   obtain ⟨rfl, rfl⟩ := hxu
   split at hy
   ·exact absurd (List.mem_append_right _ (List.mem_flatMap.2 ⟨y, List.mem_of_getElem? hy, by simp [hky]⟩)) (hap k hkx)
   ·rename_i hj
    by_cases hz : j - us.length = 0
    ·omega
    ·rw [List.getElem?_eq_none (by simp; omega)] at hy; cases hy
 ·by_cases hi : i < rows.length
  ·rw [List.getElem?_append_left hi] at hx
   obtain ⟨z, hz, hzo⟩ := hR.2.2 i x hx
   exact ⟨z, by rw [List.getElem?_append_left (by omega)]; exact hz, owns_frm hzo hf (fun k hk hm => owns_ne hR.1 hzo hne (by simpa using hm) hk rfl)⟩
  ·have hi2 : i = rows.length := by
    have := (List.getElem?_eq_some_iff.1 hx).1
    rw [List.length_append, List.length_singleton] at this
    omega
   rw [hi2, List.getElem?_append_right (Nat.le_refl _), Nat.sub_self] at hx
   cases hx
   exact ⟨u, by rw [hi2, ← hl, List.getElem?_append_right (Nat.le_refl _), Nat.sub_self]; rfl, hrw⟩
 ·rcases List.mem_append.1 hk with h9 | h9
  ·rcases hb k (by simpa using h9) with h8 | h8
   ·exact .inl (List.mem_append_right _ (List.mem_append_left _ (by simp [h8])))
   ·exact .inr h8
  ·rw [List.flatMap_append] at h9
   rcases List.mem_append.1 h9 with h8 | h8
   ·exact .inl (List.mem_append_right _ (List.mem_append_right _ h8))
   ·exact .inl (List.mem_append_left _ (by simpa [ownC] using h8))
/-- One of the rows is turned, and the new one is put in its place. -/
theorem Sep.setRow {α : Type} {w0 w w' : World} {cs : List Chunk} {eo e size n cap g B m : Nat} {enc : List α → List Value} {u u' : Value} {us ws : List Value} {rows : List (List α)} {r' : List α} (h : Sep w0 w (ownsC eo e size enc (.slice (some ⟨g, 0, none⟩) n cap) us rows :: cs)) {i : Nat} (hi : us[i]? = some u) (hne : eo ≠ e) (hu : u'.oneCell' = true) (ho : w'.ownsRow B e size u' m ws) (hm : m = r'.length) (hws : ws = enc r') (hf : Frm u.ownBlock.toList w w') (hb : ∀ k, u'.ownBlock = some k → u.ownBlock = some k ∨ w.heap.size ≤ k) :
  Sep w0 (w'.setCell ⟨g, i, none⟩ u') (ownsC eo e size enc (.slice (some ⟨g, 0, none⟩) n cap) (us.set i u') (rows.set i r') :: cs) := by
 have hR := h.at_ 0 rfl
 have hl := ownsC_len hR
 obtain ⟨r, hr, hor⟩ := ownsC_in hR hi
 subst hm hws
 have hui : ∀ k, u.ownBlock = some k → k ≠ g := fun k hk => (owns_ne hR.1 hor hne rfl hk).symm
 have hgl : g < w.heap.size := (hR.1.lt g rfl).2
 have hu'g : ∀ k, u'.ownBlock = some k → k ≠ g := fun k hk e => by
  rcases hb k hk with h9 | h9
  ·exact hui k h9 e
  ·omega
 have hil : i < us.length := (List.getElem?_eq_some_iff.1 hi).1
 have hf2 : Frm (g :: u.ownBlock.toList) w (w'.setCell ⟨g, i, none⟩ u') := (hf.mono (fun x hx => List.mem_cons_of_mem _ hx)).setCell (.inl (by simp)) _
 have hout : w'.ownsRow 0 eo 1 (.slice (some ⟨g, 0, none⟩) n cap) rows.length us := owns_frm hR.1 hf (fun k hk hm => by
  have hk2 : k = g := by simpa [Value.ownBlock] using hk.symm
  subst hk2
  exact hui k (by simpa using hm) rfl)
 refine h.step 0 _ rfl hf2 (fun k hk => .inl ?_) ⟨by rw [List.length_set]; exact owns_setCell hout rfl i u', ⟨fun z hz => ?_, fun a b x y hx hy k hkx hky => ?_⟩, fun j x hx => ?_⟩ (fun k hk => ?_)
 ·rcases List.mem_cons.1 hk with rfl | hk
  ·exact List.mem_append_left _ (by simp [Value.ownBlock])
  ·exact List.mem_append_right _ (List.mem_flatMap.2 ⟨u, List.mem_of_getElem? hi, hk⟩)
 ·rcases List.mem_or_eq_of_mem_set hz with hz | rfl
  ·exact hR.2.1.1 z hz
  ·exact hu
 ·have hold : ∀ (j : Nat) (z : Value), j ≠ i → us[j]? = some z → ∀ q, z.ownBlock = some q → u'.ownBlock ≠ some q := fun j z hj hz q hq h9 => by
   rcases hb q h9 with h8 | h8
   ·exact hj (hR.2.1.2 j i z u hz hi q hq h8)
   ·obtain ⟨_, _, hzo⟩ := ownsC_in hR hz
    have := (hzo.lt q hq).2
    omega
  rw [List.getElem?_set] at hx hy
  split at hx
  ·rename_i ea
   cases hx
   split at hy
   ·omega
   ·rename_i eb
    exact absurd hkx (hold b y (fun h => eb h.symm) hy k hky)
  ·rename_i ea
   split at hy
   ·cases hy
    exact absurd hky (hold a x (fun h => ea h.symm) hx k hkx)
   ·exact hR.2.1.2 a b x y hx hy k hkx hky
 ·rw [List.getElem?_set] at hx
  split at hx
  ·rename_i ej
   split at hx
   ·cases hx
    subst ej
    exact ⟨u', List.getElem?_set_self hil, owns_frm (ownsB_mono ho (Nat.zero_le _)) ((Frm.refl [g] w').setCell (p := ⟨g, i, none⟩) (.inl (by simp)) _) (fun k hk hm => hu'g k hk (List.mem_singleton.1 hm))⟩
   ·cases hx
  ·rename_i ej
   obtain ⟨z, hz, hzo⟩ := hR.2.2 j x hx
   refine ⟨z, by rw [List.getElem?_set_ne ej]; exact hz, owns_frm hzo hf2 (fun k hk hm => ?_)⟩
   rcases List.mem_cons.1 hm with rfl | hm
   ·exact owns_ne hR.1 hzo hne rfl hk rfl
   ·exact ej (hR.2.1.2 i j u z hi hz k (by simpa using hm) hk)
 ·rcases List.mem_append.1 hk with h9 | h9
  ·exact .inl (List.mem_append_left _ h9)
  ·obtain ⟨z, hz, hzk⟩ := List.mem_flatMap.1 h9
   rcases List.mem_or_eq_of_mem_set hz with hz | rfl
   ·exact .inl (List.mem_append_right _ (List.mem_flatMap.2 ⟨z, hz, hzk⟩))
   ·rcases hb k (by simpa using hzk) with h8 | h8
    ·exact .inl (List.mem_append_right _ (List.mem_flatMap.2 ⟨u, List.mem_of_getElem? hi, by simp [h8]⟩))
    ·exact .inr h8
theorem ownC_cell {w : World} {e size n cap g : Nat} {xs : List Value} (h : (ownC e size (.slice (some ⟨g, 0, none⟩) n cap) n xs).P w) {i : Nat} {u : Value} (hu : xs[i]? = some u) : w.cell? ⟨g, i, none⟩ = some u := by
 have hn : 0 < n := by
  rcases Nat.eq_zero_or_pos n with h0 | h0
  ·have h1 : xs.length = n * size := h.1
   rw [h0, Nat.zero_mul] at h1
   rw [List.eq_nil_of_length_eq_zero h1] at hu
   simp at hu
  ·exact h0
 obtain ⟨g', cap', e', _, _, _, hr⟩ := ownsB_some h hn
 cases e'
 exact hr.cell hu
theorem ownC_some {w : World} {e size n : Nat} {v : Value} {xs : List Value} (h : (ownC e size v n xs).P w) (hn : 0 < n) : ∃ g cap, v = .slice (some ⟨g, 0, none⟩) n cap ∧ n ≤ cap ∧ cap ≤ maxLen := by
 obtain ⟨g, cap, e', _, h1, h2, _⟩ := ownsB_some h hn
 exact ⟨g, cap, e', h1, h2⟩
/-- A row of integers is stored into. -/
theorem Sep.put {w0 w : World} {cs : List Chunk} (h : Sep w0 w cs) (i : Nat) {e size n cap g : Nat} {xs : List Value} (hi : cs[i]? = some (ownC e size (.slice (some ⟨g, 0, none⟩) n cap) n xs)) (j : Nat) (u : Value) : Sep w0 (w.setCell ⟨g, j, none⟩ u) (cs.set i (ownC e size (.slice (some ⟨g, 0, none⟩) n cap) n (xs.set j u))) :=
 h.step i _ hi (fp := [g]) ((Frm.refl [g] w).setCell (p := ⟨g, j, none⟩) (.inl (by simp)) u) (fun k hk => .inl (by rw [List.mem_singleton.1 hk]; simp [ownC, Value.ownBlock])) (owns_setCell (h.at_ i hi) rfl j u) (fun k hk => .inl hk)
theorem Sep.putBox {w0 w : World} {cs : List Chunk} (h : Sep w0 w cs) (i : Nat) {e b : Nat} {xs : List Value} (hi : cs[i]? = some (boxC b e xs)) (j : Nat) (u : Value) : Sep w0 (w.setCell ⟨b, j, none⟩ u) (cs.set i (boxC b e (xs.set j u))) :=
 h.step i _ hi (fp := [b]) ((Frm.refl [b] w).setCell (p := ⟨b, j, none⟩) (.inl (by simp)) u) (fun k hk => .inl hk) (RowAt.setCell (h.at_ i hi) j u) (fun k hk => .inl hk)
end Go.Proofs.YtikpcipkkhmcfaaGreat
