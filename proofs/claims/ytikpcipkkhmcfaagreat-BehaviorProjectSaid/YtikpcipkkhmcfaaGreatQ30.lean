/- A map whose keys are structs: its lookups, new entries and ranges, over the raw entries. No function of the program. -/
import Derived.Test.YtikpcipkkhmcfaaGreatQ01
import Derived.Maps.RangeWalk
import Derived.Shelf.Abstract
namespace Go.Proofs.YtikpcipkkhmcfaaGreat.Ind
open Go.RowKit Go.Maps Go.Shelf Go.ChangeMaps

/-- What the laws on a map ask of the type of its keys. -/
structure KeyS (kt : TypeId) {α : Type} [DecidableEq α] (ke : α → Value) : Prop where
 und : ∃ fs, Tryz.prog.underlying kt = some (.struct fs)
 eq : ∀ (w : World) (a b : α), (Op.equal kt (ke a) (ke b)).run Tryz.prog w = .ok (decide (a = b)) w
 check : ∀ (w : World) (em : Bool) (a : α), (Instr.checkKey em 10000 kt (ke a)).run Tryz.prog w = .ok () w
section
variable {α : Type} {kt : TypeId} {ke : α → Value}
/-- Block b is such a map. -/
def KM (ke : α → Value) (w : World) (b : Nat) (kv : List (α × Value)) : Prop :=
 ∃ es clock, w.heap[b]? = some (.map es clock) ∧ es.toList.map (fun e => (e.key, e.val)) = kv.map (fun p => (ke p.1, p.2)) ∧ (∀ x ∈ es.toList, x.born < clock) ∧ (es.toList.map (·.born)).Nodup
def getA [DecidableEq α] (kv : List (α × Value)) (k : α) : Option Value := (kv.find? fun p => decide (p.1 = k)).map (·.2)
variable {w w' : World} {b : Nat} {kv : List (α × Value)} {k : α}
theorem KM.lt (h : KM ke w b kv) : b < w.heap.size := by
 obtain ⟨es, clock, h1, _⟩ := h
 exact (Array.getElem?_eq_some_iff.1 h1).1
theorem KM.frm {fp : List Nat} (h : KM ke w b kv) (hf : Frm fp w w') (hn : b ∉ fp) : KM ke w' b kv := by
 have hl := h.lt
 obtain ⟨es, clock, h1, h2⟩ := h
 exact ⟨es, clock, (hf.block b hl hn).trans h1, h2⟩
theorem KM.fresh (w : World) : KM ke (w.alloc (.map #[] 0)) w.heap.size [] := ⟨#[], 0, (MapKept.heap_alloc w _).1, rfl, by simp, by simp⟩
variable [DecidableEq α]
theorem findA_kv (K : KeyS kt ke) : ∀ (es : List MapEntry) (kv : List (α × Value)) (i : Nat), es.map (fun e => (e.key, e.val)) = kv.map (fun p => (ke p.1, p.2)) →
  ∃ r, (Instr.findAsking kt (ke k) es i).run Tryz.prog w = .ok r w ∧ r.map (·.2) = getA kv k
 | [], kv, i, h => by
  have : kv = [] := by cases kv with | nil => rfl | cons p r => simp at h
  subst this
  exact ⟨none, by simp [Instr.findAsking], rfl⟩
 | e :: es, [], i, h => by simp at h
 | e :: es, p :: kv, i, h => by
  simp only [List.map_cons, List.cons.injEq, Prod.mk.injEq] at h
  obtain ⟨⟨h1, h2⟩, h3⟩ := h
  have hq := K.eq w k p.1
  obtain ⟨r, hr, hv⟩ := findA_kv K es kv (i + 1) h3
  by_cases e9 : k = p.1
  ·have hb : decide (k = p.1) = true := by simp [e9]
   rw [hb] at hq
   refine ⟨some (i, e.val), by simp [Instr.findAsking, h1, hq], ?_⟩
   have hb2 : decide (p.1 = k) = true := by simp [e9]
   rw [getA, List.find?_cons, hb2]
   simp [h2]
  ·have hb : decide (k = p.1) = false := by simp [e9]
   rw [hb] at hq
   refine ⟨r, by simp [Instr.findAsking, h1, hq, hr], ?_⟩
   have hb2 : decide (p.1 = k) = false := by simp [Ne.symm e9]
   rw [getA, List.find?_cons, hb2]
   exact hv
theorem sameNow_struct {fs : Array Field} (a b : Value) : Instr.sameNow (.struct fs) a b = none := by cases a <;> cases b <;> rfl
theorem findKeyA_kv (K : KeyS kt ke) {es : List MapEntry} (h : es.map (fun e => (e.key, e.val)) = kv.map (fun p => (ke p.1, p.2))) :
  ∃ r, (Instr.findKey kt (ke k) es).run Tryz.prog w = .ok r w ∧ r.map (·.2) = getA kv k := by
 obtain ⟨r, hr, hv⟩ := findA_kv (w := w) (k := k) K es kv 0 h
 obtain ⟨fs, hu⟩ := K.und
 cases es with
 | nil =>
  have : kv = [] := by cases kv with | nil => rfl | cons p r => simp at h
  subst this
  exact ⟨none, by simp [Instr.findKey, run_underlying hu, Instr.findNow], rfl⟩
 | cons e es => exact ⟨r, by simp [Instr.findKey, run_underlying hu, Instr.findNow, sameNow_struct, hr], hv⟩
theorem KM.look (h : KM ke w b kv) (K : KeyS kt ke) {mt et : TypeId} (ht : Tryz.prog.underlying mt = some (.map kt et)) {z : Value} (hz : (zeroValue et).run Tryz.prog w = .ok z w) (ok : Bool) :
  (Instr.lookup mt (.map (some b)) (ke k) ok).run Tryz.prog w = .ok (if ok = true then .tuple #[(getA kv k).getD z, .bool (getA kv k).isSome] else (getA kv k).getD z) w := by
 obtain ⟨es, clock, h1, h2, _⟩ := h
 obtain ⟨r, hr, hv⟩ := findKeyA_kv (w := w) (k := k) K h2
 cases r with
 | none =>
  have hg : getA kv k = none := by simpa using hv.symm
  rw [hg]
  simp [Instr.lookup, run_underlying ht, Go.MapKept.run_getObj_map h1, K.check, hr, hz]
 | some q =>
  have hg : getA kv k = some q.2 := by simpa using hv.symm
  rw [hg]
  simp [Instr.lookup, run_underlying ht, Go.MapKept.run_getObj_map h1, K.check, hr]
theorem KM.put (h : KM ke w b kv) (K : KeyS kt ke) {mt et : TypeId} (ht : Tryz.prog.underlying mt = some (.map kt et)) (hg : getA kv k = none) (v : Value) :
  ∃ w', (Instr.mapUpdate mt (.map (some b)) (ke k) v).run Tryz.prog w = .ok () w' ∧ KM ke w' b (kv ++ [(k, v)]) ∧ Frm [b] w w' ∧ w'.heap.size = w.heap.size := by
 obtain ⟨es, clock, h1, h2, h3, h4⟩ := h
 obtain ⟨r, hr, hv⟩ := findKeyA_kv (w := w) (k := k) K h2
 have hn : r = none := by rw [hg] at hv; simpa using hv
 subst hn
 refine ⟨{ w with heap := w.heap.setIfInBounds b (.map (es.push ⟨ke k, v, clock⟩) (clock + 1)) }, ?_, ⟨es.push ⟨ke k, v, clock⟩, clock + 1, (Go.MapKept.heap_set h1).1, ?_, ?_, ?_⟩, ⟨rfl, rfl, rfl, by simp, fun i _ hi => (Go.MapKept.heap_set h1).2 i (by simpa using hi)⟩, by simp⟩
 ·simp [Instr.mapUpdate, run_underlying ht, Go.MapKept.run_getObj_map h1, K.check, hr, Go.MapKept.run_setObj_map _ h1]
 ·simp [h2]
 ·intro x hx
  rw [Array.toList_push, List.mem_append] at hx
  rcases hx with hx | hx
  ·have := h3 x hx
   omega
  ·rw [List.mem_singleton.1 hx]
   exact Nat.lt_succ_self _
 ·rw [Array.toList_push, List.map_append, List.nodup_append]
  refine ⟨h4, by simp, fun a ha c hc => ?_⟩
  obtain ⟨x, hx, rfl⟩ := List.mem_map.1 ha
  obtain ⟨y, hy, rfl⟩ := List.mem_map.1 hc
  rw [List.mem_singleton.1 hy]
  exact Nat.ne_of_lt (h3 x hx)
/-- A range over such a map: Q holds of every entry that has come; cnt are still to come. -/
def KRng (ke : α → Value) (w : World) (b r : Nat) (kv : List (α × Value)) (Q : α × Value → Prop) (cnt : Nat) : Prop :=
 ∃ es clock since seen c0, w.heap[b]? = some (.map es clock) ∧ es.toList.map (fun e => (e.key, e.val)) = kv.map (fun p => (ke p.1, p.2)) ∧ (∀ x ∈ es.toList, x.born < clock) ∧ (es.toList.map (·.born)).Nodup ∧
  w.heap[r]? = some (.mapIter (some b) since seen c0) ∧ (∀ x ∈ es.toList, x.born < since) ∧ since ≤ c0 ∧ since ≤ clock ∧ (leftOf es seen).size = cnt ∧
  ∀ (i : Nat) (x : MapEntry) (p : α × Value), es.toList[i]? = some x → kv[i]? = some p → seen.contains x.born = true → Q p
omit [DecidableEq α] in
theorem KRng.frm {r : Nat} {Q : α × Value → Prop} {cnt : Nat} {fp : List Nat} (h : KRng ke w b r kv Q cnt) (hf : Frm fp w w') (hb : b ∉ fp) (hr : r ∉ fp) : KRng ke w' b r kv Q cnt := by
 obtain ⟨es, clock, since, seen, c0, h1, h2, h3, h4, h5, h6⟩ := h
 exact ⟨es, clock, since, seen, c0, (hf.block b (Array.getElem?_eq_some_iff.1 h1).1 hb).trans h1, h2, h3, h4, (hf.block r (Array.getElem?_eq_some_iff.1 h5).1 hr).trans h5, h6⟩
omit [DecidableEq α] in
theorem KM.range (h : KM ke w b kv) {mt et : TypeId} (ht : Tryz.prog.underlying mt = some (.map kt et)) (Q : α × Value → Prop) :
  ∃ w', (Instr.range mt (.map (some b))).run Tryz.prog w = .ok (.pointer (some ⟨w.heap.size, 0, none⟩)) w' ∧ KRng ke w' b w.heap.size kv Q kv.length ∧ Frm [] w w' ∧ w'.heap.size = w.heap.size + 1 := by
 have hl := h.lt
 obtain ⟨es, clock, h1, h2, h3, h4⟩ := h
 have hlen : es.size = kv.length := by
  have := congrArg List.length h2
  simpa using this
 refine ⟨_, run_range_map w mt kt et b es clock ht h1, ⟨es, clock, clock, #[], clock, ((MapKept.heap_alloc w _).2 b hl).trans h1, h2, h3, h4, (MapKept.heap_alloc w _).1, h3, Nat.le_refl _, Nat.le_refl _, ?_, ?_⟩, (Frm.refl [] w).grown (World.grownBy_alloc w _ none) (by simp), by simp⟩
 ·rw [← hlen]
  simp [leftOf]
 ·intro i x p _ _ hs
  simp at hs
theorem left_lt {es : Array MapEntry} {seen : Array Nat} {e : MapEntry} (he : e ∈ (leftOf es seen).toList) : (leftOf es (seen.push e.born)).size < (leftOf es seen).size := by
 have e1 : ∀ a : Array Nat, (leftOf es a).size = (es.toList.filter fun e => !a.contains e.born).length := fun a => by
  unfold leftOf
  rw [← Array.length_toList, Array.toList_filter]
 rw [e1, e1]
 obtain ⟨hm, hs⟩ := mem_left he
 generalize es.toList = l at hm
 induction l with
 | nil => cases hm
 | cons x r ih =>
  have hsub : ∀ y : MapEntry, seen.contains y.born = true → (seen.push e.born).contains y.born = true := fun y hy => by
   rw [Array.contains_iff_mem] at hy ⊢
   exact Array.mem_push_of_mem _ hy
  have hmono : ∀ l : List MapEntry, (l.filter fun e9 => !(seen.push e.born).contains e9.born).length ≤ (l.filter fun e9 => !seen.contains e9.born).length := fun l => by
   induction l with
   | nil => exact Nat.le_refl _
   | cons y r ih =>
    rw [List.filter_cons, List.filter_cons]
    cases hc : seen.contains y.born with
    | true =>
     rw [hsub y hc]
     exact ih
    | false =>
     cases hc2 : (seen.push e.born).contains y.born with
     | true => exact Nat.le_succ_of_le ih
     | false => exact Nat.succ_le_succ ih
  rcases List.mem_cons.1 hm with rfl | hm
  ·have h1 : (seen.push e.born).contains e.born = true := by simp
   rw [List.filter_cons, List.filter_cons, h1, hs]
   have := hmono r
   simp only [Bool.not_true, Bool.not_false, Bool.false_eq_true, if_false, if_true, List.length_cons]
   omega
  ·have ih := ih hm
   rw [List.filter_cons, List.filter_cons]
   cases hc : seen.contains x.born with
   | true =>
    rw [hsub x hc]
    exact ih
   | false =>
    cases hc2 : (seen.push e.born).contains x.born with
    | true => exact Nat.lt_succ_of_lt ih
    | false => exact Nat.succ_lt_succ ih
omit [DecidableEq α] in
theorem KRng.next {r : Nat} {Q : α × Value → Prop} {cnt : Nat} (h : KRng ke w b r kv Q cnt) (ty : TypeId) :
  (cnt = 0 ∧ (∀ p ∈ kv, Q p) ∧ (Instr.next (.pointer (some ⟨r, 0, none⟩)) false ty).run Tryz.prog w = .ok (.tuple #[.bool false]) w) ∨
  ∃ p ∈ kv, ∃ w' cnt', (Instr.next (.pointer (some ⟨r, 0, none⟩)) false ty).run Tryz.prog w = .ok (.tuple #[.bool true, ke p.1, p.2]) w' ∧
   (∀ Q' : α × Value → Prop, (∀ q ∈ kv, Q q → Q' q) → Q' p → KRng ke w' b r kv Q' cnt') ∧ KM ke w' b kv ∧ cnt' < cnt ∧ Frm [r] w w' ∧ w'.heap.size = w.heap.size ∧ (Instr.entry (.pointer (some ⟨r, 0, none⟩))).run Tryz.prog w' = .ok (.tuple #[ke p.1, p.2]) w' := by
 obtain ⟨es, clock, since, seen, c0, h1, h2, h3, h4, h5, h6, h7, h8, rfl, h10⟩ := h
 have hne : b ≠ r := fun e => by rw [e, h5] at h1; cases h1
 have hlen : es.toList.length = kv.length := by
  have := congrArg List.length h2
  simpa using this
 have hat : ∀ {i : Nat} {x : MapEntry}, es.toList[i]? = some x → ∃ p, kv[i]? = some p ∧ x.key = ke p.1 ∧ x.val = p.2 := fun {i x} hx => by
  have e1 := congrArg (fun l => l[i]?) h2
  simp only [List.getElem?_map, hx, Option.map_some] at e1
  cases hk : kv[i]? with
  | none => rw [hk] at e1; cases e1
  | some p =>
   rw [hk] at e1
   simp at e1
   exact ⟨p, rfl, e1.1, e1.2⟩
 rcases run_next_at (P := Tryz.prog) w ty r b since c0 seen es clock h5 h1 h6 h7 with ⟨h0, hrun⟩ | ⟨e, he, w1, hal, hrun⟩
 ·refine .inl ⟨h0, fun p hp => ?_, hrun⟩
  obtain ⟨i, hi⟩ := List.getElem?_of_mem hp
  have hil : i < es.toList.length := by rw [hlen]; exact (List.getElem?_eq_some_iff.1 hi).1
  exact h10 i _ p (List.getElem?_eq_getElem hil) hi (all_seen es seen h0 _ (List.getElem_mem hil))
 ·obtain ⟨hem, hes⟩ := mem_left he
  obtain ⟨i, hi⟩ := List.getElem?_of_mem hem
  obtain ⟨p, hp, hkey, hval⟩ := hat hi
  have hf1 : Frm [] w w1 := by
   rcases hal with rfl | rfl
   ·exact Frm.refl _ _
   ·exact (Frm.refl [] w).drew
  have hs1 : w1.heap.size = w.heap.size := by rcases hal with rfl | rfl <;> rfl
  have hr1 : w1.heap[r]? = some (.mapIter (some b) since seen c0) := by rcases hal with rfl | rfl <;> exact h5
  have hb1 : w1.heap[b]? = some (.map es clock) := by rcases hal with rfl | rfl <;> exact h1
  have hset := MapKept.heap_set (o' := .mapIter (some b) since (seen.push e.born) clock) hr1
  have hb' : (setBlock w1 r (.mapIter (some b) since (seen.push e.born) clock)).heap[b]? = some (.map es clock) := (hset.2 b hne).trans hb1
  have hr' : (setBlock w1 r (.mapIter (some b) since (seen.push e.born) clock)).heap[r]? = some (.mapIter (some b) since (seen.push e.born) clock) := hset.1
  rw [hkey, hval] at hrun
  have hen := run_entry_at (P := Tryz.prog) _ r b since seen es clock e hr' hb' hem h4
  rw [hkey, hval] at hen
  refine .inr ⟨p, List.mem_of_getElem? hp, _, _, hrun, ?_, ⟨es, clock, hb', h2, h3, h4⟩, left_lt he, ?_, ?_, hen⟩
  ·intro Q' hq hq1
   refine ⟨es, clock, since, seen.push e.born, clock, hb', h2, h3, h4, hr', h6, h8, h8, rfl, ?_⟩
   intro j x q hx hqj hs
   by_cases hb9 : x.born = e.born
   ·have hx9 : x = e := by
     have hm := List.mem_of_getElem? hx
     have : ∀ {l : List MapEntry}, (l.map (·.born)).Nodup → ∀ {x y : MapEntry}, x ∈ l → y ∈ l → x.born = y.born → x = y := fun {l} => by
      induction l with
      | nil => intro _ x y hx; cases hx
      | cons z t ih =>
       intro hnd x y hx hy hxy
       rw [List.map_cons, List.nodup_cons] at hnd
       rcases List.mem_cons.1 hx with e1 | hx
       ·rcases List.mem_cons.1 hy with e2 | hy
        ·rw [e1, e2]
        ·exact absurd (List.mem_map.2 ⟨y, hy, by rw [← hxy, e1]⟩) hnd.1
       ·rcases List.mem_cons.1 hy with e2 | hy
        ·exact absurd (List.mem_map.2 ⟨x, hx, by rw [hxy, e2]⟩) hnd.1
        ·exact ih hnd.2 hx hy hxy
     exact this h4 hm hem hb9
    subst hx9
    have hij : i = j := by
     have hlt : i < (es.toList.map (·.born)).length := by rw [List.length_map]; exact (List.getElem?_eq_some_iff.1 hi).1
     exact (List.getElem?_inj hlt h4).1 (by rw [List.getElem?_map, List.getElem?_map, hi, hx])
    subst hij
    rw [hp] at hqj
    cases hqj
    exact hq1
   ·have : seen.contains x.born = true := by
     simp at hs ⊢
     rcases hs with hs | hs
     ·exact hs
     ·exact absurd hs hb9
    exact hq q (List.mem_of_getElem? hqj) (h10 j x q hx hqj this)
  ·refine ⟨?_, ?_, ?_, ?_, ?_⟩
   ·exact hf1.os
   ·exact hf1.tape
   ·exact hf1.output
   ·show w.heap.size ≤ (w1.heap.setIfInBounds r _).size
    rw [Array.size_setIfInBounds, hs1]
    exact Nat.le_refl _
   ·intro k hk hkr
    have hkr' : k ≠ r := by simpa using hkr
    exact (hset.2 k hkr').trans (hf1.block k hk (by simp))
  ·show (w1.heap.setIfInBounds r _).size = _
   rw [Array.size_setIfInBounds, hs1]
variable {ops : Array Oper} {rest : List Oper} {o : Oper} {a : Act} {Q : Exit → Act → World → Prop}
end

end Go.Proofs.YtikpcipkkhmcfaaGreat.Ind
