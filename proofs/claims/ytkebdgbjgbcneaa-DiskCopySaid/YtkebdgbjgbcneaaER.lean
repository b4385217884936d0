/- A map whose keys are pointers to files: its lookups and updates. -/
import Derived.Test.YtkebdgbjgbcneaaDQ
import Derived.LaidEqlPtr
namespace Go.Proofs.Ytkebdgbjgbcneaa
open Go.RowKit Go.Maps Go.Shelf

def ptrV : Option Nat → Value
  | some g => .pointer (some ⟨g, 0, none⟩)
  | none => .pointer none
theorem ptrV_none : ptrV none = .pointer none := rfl
theorem ptrV_inj {a b : Option Nat} (h : ptrV a = ptrV b) : a = b := by
  cases a <;> cases b <;> simp [ptrV] at h
  · rfl
  · rw [h]
/-- A pointer to nothing or to a block of a file's cells. -/
def Alive (w : World) (k : Option Nat) : Prop := ∀ g, k = some g → ∃ xs, RowAt w g 62 xs
theorem Alive.frm {w w' : World} {k : Option Nat} {fp : List Nat} (h : Alive w k) (hf : Frm fp w w') (hn : ∀ g, k = some g → g ∉ fp ∨ Alive w' k) : Alive w' k := fun g hg => by
  rcases hn g hg with h9 | h9
  · obtain ⟨xs, hx⟩ := h g hg
    exact ⟨xs, hx.frm hf h9⟩
  · exact h9 g hg
theorem infoDF0 : (Try.prog.info? 62).map (fun i => i.size) = some 2 := by kernel_rfl
theorem infoDF : ∃ j, Try.prog.info? 62 = some j ∧ j.size ≠ 0 := by
  have h := infoDF0
  cases hj : Try.prog.info? 62 with
  | none => rw [hj] at h; cases h
  | some j =>
    rw [hj] at h
    simp at h
    exact ⟨j, rfl, by omega⟩
theorem equal_key {w : World} {a b : Option Nat} (ha : Alive w a) (hb : Alive w b) : (Op.equal 59 (ptrV a) (ptrV b)).run Try.prog w = .ok (a == b) w := by
  obtain ⟨j, hj, hsz⟩ := infoDF
  have hp := Try.underlying59
  have h : ∀ d : Nat, (Op.equalIn (d + 1) 59 (ptrV a) (ptrV b)).run Try.prog w = .ok (a == b) w := fun d => by
    cases a with
    | none => cases b <;> simp [ptrV, Op.equalIn, run_underlying hp]
    | some g =>
      cases b with
      | none => simp [ptrV, Op.equalIn, run_underlying hp]
      | some g' =>
        by_cases e : g = g'
        · subst e
          simp [ptrV, Op.equalIn, run_underlying hp, sizeOf, typeInfo, hj, run_sameAddr_same]
        · obtain ⟨xs, cur, h1, _⟩ := ha g rfl
          obtain ⟨ys, cur2, h2, _⟩ := hb g' rfl
          have hne : (⟨g, 0, none⟩ : Addr) ≠ ⟨g', 0, none⟩ := fun h => e (by cases h; rfl)
          have := run_sameAddr_other (P := Try.prog) w hne h1 h2
          simp [ptrV, Op.equalIn, run_underlying hp, sizeOf, typeInfo, hj, hsz, this, e]
  simp [Op.equal, Op.maxDepth, h 9999]
/-- Block b is a map of pointers. -/
def PMap (w : World) (b : Nat) (kv : List (Option Nat × Option Nat)) : Prop :=
  ∃ es clock, w.heap[b]? = some (.map es clock) ∧ es.toList.map (fun e => (e.key, e.val)) = kv.map (fun p => (ptrV p.1, ptrV p.2))
def getK (kv : List (Option Nat × Option Nat)) (k : Option Nat) : Option (Option Nat) := (kv.find? fun p => p.1 == k).map (·.2)
theorem PMap.lt {w : World} {b : Nat} {kv : List (Option Nat × Option Nat)} (h : PMap w b kv) : b < w.heap.size := by
  obtain ⟨es, clock, h1, _⟩ := h
  exact (Array.getElem?_eq_some_iff.1 h1).1
theorem PMap.frm {w w' : World} {b : Nat} {kv : List (Option Nat × Option Nat)} {fp : List Nat} (h : PMap w b kv) (hf : Frm fp w w') (hn : b ∉ fp) : PMap w' b kv := by
  have hl := h.lt
  obtain ⟨es, clock, h1, h2⟩ := h
  exact ⟨es, clock, (hf.block b hl hn).trans h1, h2⟩
theorem find_kv {w : World} {k : Option Nat} (hk : Alive w k) : ∀ (es : List MapEntry) (kv : List (Option Nat × Option Nat)) (i : Nat), es.map (fun e => (e.key, e.val)) = kv.map (fun p => (ptrV p.1, ptrV p.2)) → (∀ p ∈ kv, Alive w p.1) →
    ∃ r, (Instr.findAsking 59 (ptrV k) es i).run Try.prog w = .ok r w ∧ r.map (·.2) = (getK kv k).map ptrV
  | [], kv, i, h, _ => by
    have : kv = [] := by cases kv with | nil => rfl | cons p r => simp at h
    subst this
    exact ⟨none, by simp [Instr.findAsking], rfl⟩
  | e :: es, [], i, h, _ => by simp at h
  | e :: es, p :: kv, i, h, hal => by
    simp only [List.map_cons, List.cons.injEq, Prod.mk.injEq] at h
    obtain ⟨⟨h1, h2⟩, h3⟩ := h
    have hq := equal_key hk (hal p List.mem_cons_self)
    obtain ⟨r, hr, hv⟩ := find_kv hk es kv (i + 1) h3 (fun q hq => hal q (List.mem_cons_of_mem _ hq))
    by_cases e9 : k = p.1
    · have hb : (k == p.1) = true := by simp [e9]
      rw [hb] at hq
      refine ⟨some (i, e.val), by simp [Instr.findAsking, h1, hq], ?_⟩
      have hb2 : (p.1 == k) = true := by simp [e9]
      rw [getK, List.find?_cons, hb2]
      simp [h2]
    · have hb : (k == p.1) = false := by simp [e9]
      rw [hb] at hq
      refine ⟨r, by simp [Instr.findAsking, h1, hq, hr], ?_⟩
      have hb2 : (p.1 == k) = false := beq_eq_false_iff_ne.2 (fun h => e9 h.symm)
      rw [getK, List.find?_cons, hb2]
      exact hv
section
variable {w : World} {b : Nat} {kv : List (Option Nat × Option Nat)} {k : Option Nat}
theorem sameNow_ptr (a b : Option Nat) (t : TypeId) : Instr.sameNow (.pointer t) (ptrV a) (ptrV b) = none := by cases a <;> cases b <;> rfl
theorem findKey_kv (hk : Alive w k) {es : List MapEntry} (h : es.map (fun e => (e.key, e.val)) = kv.map (fun p => (ptrV p.1, ptrV p.2))) (hal : ∀ p ∈ kv, Alive w p.1) :
    ∃ r, (Instr.findKey 59 (ptrV k) es).run Try.prog w = .ok r w ∧ r.map (·.2) = (getK kv k).map ptrV := by
  obtain ⟨r, hr, hv⟩ := find_kv hk es kv 0 h hal
  cases es with
  | nil =>
    have : kv = [] := by cases kv with | nil => rfl | cons p r => simp at h
    subst this
    exact ⟨none, by simp [Instr.findKey, run_underlying Try.underlying59, Instr.findNow], rfl⟩
  | cons e es =>
    cases kv with
    | nil => simp at h
    | cons p kv =>
      simp only [List.map_cons, List.cons.injEq, Prod.mk.injEq] at h
      refine ⟨r, ?_, hv⟩
      simp [Instr.findKey, run_underlying Try.underlying59, Instr.findNow, h.1.1, sameNow_ptr, hr]
theorem check_ptr (em : Bool) : (Instr.checkKey em 10000 59 (ptrV k)).run Try.prog w = .ok () w := by
  unfold Instr.checkKey
  cases k <;> simp [run_underlying Try.underlying59, ptrV]
theorem PMap.look (h : PMap w b kv) (hk : Alive w k) (hal : ∀ p ∈ kv, Alive w p.1) (ok : Bool) :
    (Instr.lookup 79 (.map (some b)) (ptrV k) ok).run Try.prog w = .ok (if ok = true then .tuple #[ptrV ((getK kv k).getD none), .bool (getK kv k).isSome] else ptrV ((getK kv k).getD none)) w := by
  obtain ⟨es, clock, h1, h2⟩ := h
  obtain ⟨r, hr, hv⟩ := findKey_kv hk h2 hal
  have hz := zero_p w
  cases r with
  | none =>
    have hg : getK kv k = none := by cases hg : getK kv k with | none => rfl | some x => rw [hg] at hv; simp at hv
    rw [hg]
    simp [Instr.lookup, run_underlying Try.underlying79, Go.MapKept.run_getObj_map h1, check_ptr, hr, hz, ptrV_none]
  | some q =>
    obtain ⟨x, hg, hx⟩ : ∃ x, getK kv k = some x ∧ q.2 = ptrV x := by
      cases hg : getK kv k with
      | none => rw [hg] at hv; simp at hv
      | some x => rw [hg] at hv; simp at hv; exact ⟨x, rfl, hv⟩
    rw [hg]
    simp [Instr.lookup, run_underlying Try.underlying79, Go.MapKept.run_getObj_map h1, check_ptr, hr, hx]
theorem PMap.put (h : PMap w b kv) (hk : Alive w k) (hal : ∀ p ∈ kv, Alive w p.1) (hg : getK kv k = none) (v : Option Nat) :
    ∃ w', (Instr.mapUpdate 79 (.map (some b)) (ptrV k) (ptrV v)).run Try.prog w = .ok () w' ∧ PMap w' b (kv ++ [(k, v)]) ∧ Frm [b] w w' := by
  obtain ⟨es, clock, h1, h2⟩ := h
  obtain ⟨r, hr, hv⟩ := findKey_kv hk h2 hal
  have hn : r = none := by rw [hg] at hv; simpa using hv
  subst hn
  refine ⟨{ w with heap := w.heap.setIfInBounds b (.map (es.push ⟨ptrV k, ptrV v, clock⟩) (clock + 1)) }, ?_, ⟨es.push ⟨ptrV k, ptrV v, clock⟩, clock + 1, (Go.MapKept.heap_set h1).1, ?_⟩, ⟨rfl, rfl, rfl, by simp, fun i _ hi => (Go.MapKept.heap_set h1).2 i (by simpa using hi)⟩⟩
  · simp [Instr.mapUpdate, run_underlying Try.underlying79, Go.MapKept.run_getObj_map h1, check_ptr, hr, Go.MapKept.run_setObj_map _ h1]
  · simp [h2]
end

end Go.Proofs.Ytkebdgbjgbcneaa
