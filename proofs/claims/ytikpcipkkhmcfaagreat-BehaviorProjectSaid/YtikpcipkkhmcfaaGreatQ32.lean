/- Texts I6, U6, T3. -/
import Derived.Test.YtikpcipkkhmcfaaGreatQ30
import Derived.Test.YtikpcipkkhmcfaaGreatQ31
import Derived.Laws.StructEq
import Derived.ChangeKeysEq
import Derived.Test.YtikpcipkkhmcfaaGreatQ06
import Derived.MapKept
import Derived.WideMake
/- Keys of maps that are structs: a kind with a channel, a place of an instance. -/
namespace Go.Proofs.YtikpcipkkhmcfaaGreat.Ind
open Go.Shelf
open Go.RowKit

section
variable {α : Type} [DecidableEq α] {kt : TypeId} {ke : α → Value} {w : World} {ops : Array Oper} {rest : List Oper} {o : Oper} {a : Act} {Q : Exit → Act → World → Prop}
end
end Go.Proofs.YtikpcipkkhmcfaaGreat.Ind

/- Maps keyed by strings: lookups, new entries. No function of the program. -/
namespace Go.Proofs.YtikpcipkkhmcfaaGreat.Beh
open Go.RowKit Go.Maps Go.Proofs.YtikpcipkkhmcfaaGreat Go.Proofs.YtikpcipkkhmcfaaGreat.Ind

abbrev strV (s : ByteArray) : Value := .string s
theorem getA_at {kv : List (ByteArray × Value)} (hd : (kv.map (·.1)).Nodup) : ∀ {j : Nat} {p : ByteArray × Value}, kv[j]? = some p → getA kv p.1 = some p.2 := by
 induction kv with
 | nil => intro j p h; simp at h
 | cons q r ih =>
  intro j p h
  rw [List.map_cons, List.nodup_cons] at hd
  cases j with
  | zero =>
   simp only [List.getElem?_cons_zero, Option.some.injEq] at h
   subst h
   simp [getA]
  | succ j =>
   simp only [List.getElem?_cons_succ] at h
   have hm : p.1 ∈ r.map (·.1) := List.mem_map.2 ⟨p, List.mem_of_getElem? h, rfl⟩
   have hne : q.1 ≠ p.1 := fun e => hd.1 (e ▸ hm)
   have := ih hd.2 h
   rw [getA] at this ⊢
   rw [List.find?_cons, decide_eq_false hne]
   exact this
theorem getA_no {kv : List (ByteArray × Value)} {s : ByteArray} (h : ∀ p ∈ kv, p.1 ≠ s) : getA kv s = none := by
 rw [getA]
 have : kv.find? (fun p => decide (p.1 = s)) = none := List.find?_eq_none.2 (fun p hp => by simpa using h p hp)
 rw [this]; rfl
section
variable {w w' : World} {b : Nat} {kv : List (ByteArray × Value)} {s : ByteArray} {kt : TypeId}
theorem str_find (hk : Tryz.prog.underlying kt = some .string) (hd : (kv.map (·.1)).Nodup) {es : List MapEntry} (h : es.map (fun e => (e.key, e.val)) = kv.map (fun p => (strV p.1, p.2))) :
  ∃ r, (Instr.findKey kt (.string s) es).run Tryz.prog w = .ok r w ∧ r.map (·.2) = getA kv s := by
 have hkey : ∀ (j : Nat) (e : MapEntry), es[j]? = some e → ∃ p, kv[j]? = some p ∧ e.key = .string p.1 ∧ e.val = p.2 := fun j e hj => by
  have := congrArg (fun l => l[j]?) h
  simp only [List.getElem?_map, hj, Option.map_some] at this
  cases hp : kv[j]? with
  | none => rw [hp] at this; cases this
  | some p =>
   rw [hp] at this
   simp only [Option.map_some, Option.some.injEq, Prod.mk.injEq] at this
   exact ⟨p, rfl, this.1, this.2⟩
 have hks : ∀ x ∈ es, Go.MapKept.IsKey .string x.key := fun x hx => by
  obtain ⟨j, hj⟩ := List.getElem?_of_mem hx
  obtain ⟨p, _, e, _⟩ := hkey j x hj
  rw [e]; trivial
 rcases Go.MapKept.findNow_spec (d := .string) (k := .string s) trivial es 0 hks with ⟨h1, h2⟩ | ⟨j, e, h1, h2, h3⟩
 ·refine ⟨none, Go.MapKept.run_findKey hk h1, ?_⟩
  rw [getA_no (fun p hp => ?_)]
  ·rfl
  ·obtain ⟨j, hj⟩ := List.getElem?_of_mem hp
   have hl : es.length = kv.length := by simpa using congrArg List.length h
   obtain ⟨e, he⟩ : ∃ e, es[j]? = some e := ⟨_, List.getElem?_eq_getElem (by rw [hl]; exact (List.getElem?_eq_some_iff.1 hj).1)⟩
   obtain ⟨p', hp', e1, _⟩ := hkey j e he
   rw [hj] at hp'
   cases hp'
   intro e2
   exact h2 e (List.mem_of_getElem? he) (by rw [e1, e2])
 ·refine ⟨some (0 + j, e.val), Go.MapKept.run_findKey hk h1, ?_⟩
  obtain ⟨p, hp, e1, e2⟩ := hkey j e h2
  rw [e1] at h3
  simp only [Value.string.injEq] at h3
  have := getA_at hd hp
  rw [h3] at this
  rw [this, ← e2]
  rfl
theorem str_look (h : KM strV w b kv) (hd : (kv.map (·.1)).Nodup) {mt et : TypeId} (hk : Tryz.prog.underlying kt = some .string) (ht : Tryz.prog.underlying mt = some (.map kt et)) {z : Value} (hz : (zeroValue et).run Tryz.prog w = .ok z w) (ok : Bool) :
  (Instr.lookup mt (.map (some b)) (.string s) ok).run Tryz.prog w = .ok (if ok = true then .tuple #[(getA kv s).getD z, .bool (getA kv s).isSome] else (getA kv s).getD z) w := by
 obtain ⟨es, clock, h1, h2, _⟩ := h
 obtain ⟨r, hr, hv⟩ := str_find (w := w) (s := s) hk hd h2
 have hc : ∀ em, (Instr.checkKey em 10000 kt (.string s)).run Tryz.prog w = .ok () w := fun em => Go.MapKept.run_checkKey (k := .string s) hk (by simp [Go.MapKept.IsKey]) em 9999
 cases r with
 | none =>
  have hg : getA kv s = none := by simpa using hv.symm
  rw [hg]
  simp [Instr.lookup, run_underlying ht, Go.MapKept.run_getObj_map h1, hc, hr, hz]
 | some q =>
  have hg : getA kv s = some q.2 := by simpa using hv.symm
  rw [hg]
  simp [Instr.lookup, run_underlying ht, Go.MapKept.run_getObj_map h1, hc, hr]
theorem str_put (h : KM strV w b kv) (hd : (kv.map (·.1)).Nodup) {mt et : TypeId} (hk : Tryz.prog.underlying kt = some .string) (ht : Tryz.prog.underlying mt = some (.map kt et)) (hg : getA kv s = none) (v : Value) :
  ∃ w', (Instr.mapUpdate mt (.map (some b)) (.string s) v).run Tryz.prog w = .ok () w' ∧ KM strV w' b (kv ++ [(s, v)]) ∧ Frm [b] w w' ∧ w'.heap.size = w.heap.size := by
 obtain ⟨es, clock, h1, h2, h3, h4⟩ := h
 obtain ⟨r, hr, hv⟩ := str_find (w := w) (s := s) hk hd h2
 have hc : ∀ em, (Instr.checkKey em 10000 kt (.string s)).run Tryz.prog w = .ok () w := fun em => Go.MapKept.run_checkKey (k := .string s) hk (by simp [Go.MapKept.IsKey]) em 9999
 have hn : r = none := by rw [hg] at hv; simpa using hv
 subst hn
 refine ⟨{ w with heap := w.heap.setIfInBounds b (.map (es.push ⟨.string s, v, clock⟩) (clock + 1)) }, ?_, ⟨es.push ⟨.string s, v, clock⟩, clock + 1, (Go.MapKept.heap_set h1).1, ?_, ?_, ?_⟩, ⟨rfl, rfl, rfl, by simp, fun i _ hi => (Go.MapKept.heap_set h1).2 i (by simpa using hi)⟩, by simp⟩
 ·simp [Instr.mapUpdate, run_underlying ht, Go.MapKept.run_getObj_map h1, hc, hr, Go.MapKept.run_setObj_map _ h1]
 ·simp [h2]
 ·intro x hx
  rw [Array.toList_push, List.mem_append] at hx
  rcases hx with hx | hx
  ·have := h3 x hx
   omega
  ·rw [List.mem_singleton.1 hx]
   show clock < clock + 1
   omega
 ·rw [Array.toList_push, List.map_append, List.nodup_append]
  refine ⟨h4, by simp, fun x hx y hy e => ?_⟩
  obtain ⟨z, hz, rfl⟩ := List.mem_map.1 hx
  have := h3 z hz
  simp only [List.map_cons, List.map_nil, List.mem_singleton] at hy
  omega
end
section
variable {ops : Array Oper} {rest : List Oper} {o : Oper} {a : Act} {Q : Exit → Act → World → Prop} {w : World} {kt : TypeId}
theorem wpl_slook (hg : o.guard = none) (m x : Operand) (mt : TypeId) (ok : Bool) (hop : o.op = Op.lookup mt m x ok) {et : TypeId} (hk : Tryz.prog.underlying kt = some .string) (ht : Tryz.prog.underlying mt = some (.map kt et)) {z : Value} (hz : (zeroValue et).run Tryz.prog w = .ok z w) (b : Nat) (kv : List (ByteArray × Value)) (hm : a.eval m = .map (some b)) (hown : KM strV w b kv) (hd : (kv.map (·.1)).Nodup) (s : ByteArray) (hx : a.eval x = .string s)
  (hK : wpList Tryz.prog ops Q rest (a.put o.dst (if ok = true then .tuple #[(getA kv s).getD z, .bool (getA kv s).isSome] else (getA kv s).getD z)) w) : wpList Tryz.prog ops Q (o :: rest) a w := by
 refine wpList_plain hg fun K' hK' => ?_
 have hrun := str_look (s := s) hown hd hk ht hz ok
 unfold Oper.wp
 simp [execOp, hop, hm, hx, hrun, Result.andThen]
 exact hK' _ _ hK
theorem wpl_sput (hg : o.guard = none) (m x v : Operand) (mt : TypeId) (hop : o.op = Op.mapUpdate mt m x v) {et : TypeId} (hk : Tryz.prog.underlying kt = some .string) (ht : Tryz.prog.underlying mt = some (.map kt et)) (b : Nat) (kv : List (ByteArray × Value)) (hm : a.eval m = .map (some b)) (hown : KM strV w b kv) (hd : (kv.map (·.1)).Nodup) (s : ByteArray) (hx : a.eval x = .string s) (u : Value) (hv : a.eval v = u) (hn : getA kv s = none)
  (hK : ∀ w', KM strV w' b (kv ++ [(s, u)]) → Frm [b] w w' → w'.heap.size = w.heap.size → wpList Tryz.prog ops Q rest (a.put o.dst undef) w') : wpList Tryz.prog ops Q (o :: rest) a w := by
 refine wpList_plain hg fun K' hK' => ?_
 obtain ⟨w', hrun, h1, h2, h3⟩ := str_put (s := s) hown hd hk ht hn u
 unfold Oper.wp
 simp [execOp, hop, hm, hx, hv, hrun, Result.andThen]
 exact hK' _ _ (hK w' h1 h2 h3)
end
/-- A map of the call's own. -/
def mapC (b : Nat) (kv : List (ByteArray × Value)) : Chunk where
 fp := [b]
 P := fun w => KM strV w b kv
 keep := fun w w' h hk => by
  have hl := h.lt
  obtain ⟨es, clock, h1, h2⟩ := h
  exact ⟨es, clock, (hk b (by simp) hl).trans h1, h2⟩
 lt := fun w h k hk => by rw [List.mem_singleton.1 hk]; exact h.lt
end Go.Proofs.YtikpcipkkhmcfaaGreat.Beh

/- A lookup that stands behind a guard. -/
namespace Go.Proofs.YtikpcipkkhmcfaaGreat.Beh
open Go.RowKit Go.Maps Go.Proofs.YtikpcipkkhmcfaaGreat Go.Proofs.YtikpcipkkhmcfaaGreat.Ind

section
variable {ops : Array Oper} {rest : List Oper} {o : Oper} {a : Act} {Q : Exit → Act → World → Prop} {w : World} {kt : TypeId}
theorem wpl_taken (hg : Region.wanted o (yielded ops a.tmps) = true) (h : ∀ K : Act → World → Prop, (∀ a w, wpList Tryz.prog ops Q rest a w → K a w) → o.wp Tryz.prog a w K Q) : wpList Tryz.prog ops Q (o :: rest) a w :=
 wpList_step fun K hK => by rw [if_pos hg]; exact h K hK
theorem wpl_slookG (hg : Region.wanted o (yielded ops a.tmps) = true) (m x : Operand) (mt : TypeId) (ok : Bool) (hop : o.op = Op.lookup mt m x ok) {et : TypeId} (hk : Tryz.prog.underlying kt = some .string) (ht : Tryz.prog.underlying mt = some (.map kt et)) {z : Value} (hz : (zeroValue et).run Tryz.prog w = .ok z w) (b : Nat) (kv : List (ByteArray × Value)) (hm : a.eval m = .map (some b)) (hown : KM strV w b kv) (hd : (kv.map (·.1)).Nodup) (s : ByteArray) (hx : a.eval x = .string s)
  (hK : wpList Tryz.prog ops Q rest (a.put o.dst (if ok = true then .tuple #[(getA kv s).getD z, .bool (getA kv s).isSome] else (getA kv s).getD z)) w) : wpList Tryz.prog ops Q (o :: rest) a w := by
 refine wpl_taken hg fun K' hK' => ?_
 have hrun := str_look (s := s) hown hd hk ht hz ok
 unfold Oper.wp
 simp [execOp, hop, hm, hx, hrun, Result.andThen]
 exact hK' _ _ hK
end
end Go.Proofs.YtikpcipkkhmcfaaGreat.Beh
