/- The model of a heap, and how a heap lies in memory. -/
import Derived.Test.YtlpgonnionbkfaaW3
namespace Go.Proofs.Ytlpgonnionbkfaa
open Go.RowKit

structure HC where
  kind : Int
  num : Int
  refs : List Int

def flat : List HC → List Value → List Value
  | c :: cs, v :: vs => .int .i64 c.kind :: .int .i64 c.num :: v :: flat cs vs
  | _, _ => []

theorem flat_len : ∀ (cs : List HC) (vs : List Value), vs.length = cs.length → (flat cs vs).length = cs.length * 3
  | [], [], _ => rfl
  | c :: cs, v :: vs, h => by
    have := flat_len cs vs (by simpa using h)
    simp [flat, this]; omega
  | [], _ :: _, h => by simp at h
  | _ :: _, [], h => by simp at h

theorem flat_get : ∀ (cs : List HC) (vs : List Value) (i : Nat) (c : HC) (v : Value), cs[i]? = some c → vs[i]? = some v →
    (flat cs vs)[i * 3]? = some (.int .i64 c.kind) ∧ (flat cs vs)[i * 3 + 1]? = some (.int .i64 c.num) ∧ (flat cs vs)[i * 3 + 2]? = some v
  | c :: cs, v :: vs, 0, _, _, hc, hv => by simp at hc hv; subst hc hv; simp [flat]
  | _ :: cs, _ :: vs, i + 1, c, v, hc, hv => by
    have := flat_get cs vs i c v (by simpa using hc) (by simpa using hv)
    have e : (i + 1) * 3 = i * 3 + 1 + 1 + 1 := by omega
    rw [e]
    simpa [flat] using this
  | [], _, _, _, _, hc, _ => by simp at hc
  | _ :: _, [], _, _, _, _, hv => by simp at hv

theorem flat_set : ∀ (cs : List HC) (vs : List Value) (i : Nat) (c : HC) (v : Value), vs.length = cs.length → i < cs.length →
    ((((flat cs vs).set (i * 3) (.int .i64 c.kind)).set (i * 3 + 1) (.int .i64 c.num)).set (i * 3 + 2) v) = flat (cs.set i c) (vs.set i v)
  | _ :: cs, _ :: vs, 0, _, _, _, _ => by simp [flat]
  | _ :: cs, _ :: vs, i + 1, c, v, hl, hi => by
    have := flat_set cs vs i c v (by simpa using hl) (by simpa using hi)
    have e : (i + 1) * 3 = i * 3 + 1 + 1 + 1 := by omega
    rw [e]
    simpa [flat] using this
  | [], _, _, _, _, _, hi => by simp at hi
  | _ :: _, [], _, _, _, hl, _ => by simp at hl

theorem flat_app : ∀ (cs : List HC) (vs : List Value) (c : HC) (v : Value), vs.length = cs.length →
    flat cs vs ++ [.int .i64 c.kind, .int .i64 c.num, v] = flat (cs ++ [c]) (vs ++ [v])
  | [], [], _, _, _ => by simp [flat]
  | _ :: cs, _ :: vs, c, v, hl => by
    have := flat_app cs vs c v (by simpa using hl)
    simp [flat, this]
  | [], _ :: _, _, _, hl => by simp at hl
  | _ :: _, [], _, _, hl => by simp at hl

def blocksOf (vs : List Value) : List Nat := vs.flatMap (fun v => v.ownBlock.toList)
def fpOf (hb : Nat) (cv : Value) (vs : List Value) : List Nat := hb :: (cv.ownBlock.toList ++ blocksOf vs)

structure HeapRep (w : World) (hb : Nat) (th : TypeId) (cv : Value) (vs : List Value) (most : Int) (cs : List HC) : Prop where
  hd : RowAt w hb th [.int .i64 most, cv]
  row : w.ownsRow 0 32 3 cv cs.length (flat cs vs)
  len : vs.length = cs.length
  refs : ∀ (i : Nat) (c : HC) (v : Value), cs[i]? = some c → vs[i]? = some v → w.ownsRow 0 3 1 v c.refs.length (ints c.refs)
  apart : (fpOf hb cv vs).Nodup
  small : cs.length ≤ 65536

theorem mem_blocksOf {vs : List Value} {k : Nat} : k ∈ blocksOf vs ↔ ∃ (i : Nat) (v : Value), vs[i]? = some v ∧ v.ownBlock = some k := by
  simp only [blocksOf, List.mem_flatMap, Option.mem_toList]
  constructor
  · rintro ⟨v, hv, hk⟩
    obtain ⟨i, hi⟩ := List.mem_iff_getElem?.1 hv
    exact ⟨i, v, hi, hk⟩
  · rintro ⟨i, v, hi, hk⟩
    exact ⟨v, List.mem_of_getElem? hi, hk⟩

theorem HeapRep.lt {w : World} {hb : Nat} {th : TypeId} {cv : Value} {vs : List Value} {most : Int} {cs : List HC} (h : HeapRep w hb th cv vs most cs) : ∀ k ∈ fpOf hb cv vs, k < w.heap.size := by
  intro k hk
  simp only [fpOf, List.mem_cons, List.mem_append, Option.mem_toList, mem_blocksOf] at hk
  rcases hk with rfl | hk | ⟨i, v, hi, hk⟩
  · exact h.hd.lt
  · exact (h.row.lt k hk).2
  · have hlt : i < cs.length := by rw [← h.len]; exact (List.getElem?_eq_some_iff.1 hi).1
    exact ((h.refs i cs[i] v (by simp [hlt]) hi).lt k hk).2

theorem HeapRep.frm {fp : List Nat} {w w' : World} {hb : Nat} {th : TypeId} {cv : Value} {vs : List Value} {most : Int} {cs : List HC} (h : HeapRep w hb th cv vs most cs) (hf : Frm fp w w') (hn : ∀ k ∈ fpOf hb cv vs, k ∉ fp) :
    HeapRep w' hb th cv vs most cs where
  hd := h.hd.frm hf (hn _ (by simp [fpOf]))
  row := owns_frm h.row hf (fun k hk => hn k (by simp [fpOf, hk]))
  len := h.len
  refs := fun i c v hc hv => owns_frm (h.refs i c v hc hv) hf (fun k hk => hn k (by simp only [fpOf, List.mem_cons, List.mem_append]; exact .inr (.inr (mem_blocksOf.2 ⟨i, v, hv, hk⟩))))
  apart := h.apart
  small := h.small

/-- What the walk wants at cell i. -/
structure CellAt (w : World) (cb i : Nat) (c : HC) (v : Value) : Prop where
  c0 : w.cell? ⟨cb, i * 3, none⟩ = some (.int .i64 c.kind)
  c1 : w.cell? ⟨cb, i * 3 + 1, none⟩ = some (.int .i64 c.num)
  c2 : w.cell? ⟨cb, i * 3 + 2, none⟩ = some v
  z0 : w.frozen? ⟨cb, i * 3, none⟩ = false
  z1 : w.frozen? ⟨cb, i * 3 + 1, none⟩ = false
  z2 : w.frozen? ⟨cb, i * 3 + 2, none⟩ = false
  refs : w.ownsRow 0 3 1 v c.refs.length (ints c.refs)

theorem HeapRep.shape {w : World} {hb : Nat} {th : TypeId} {cv : Value} {vs : List Value} {most : Int} {cs : List HC} (h : HeapRep w hb th cv vs most cs) (hne : 0 < cs.length) :
    ∃ cb cap, cv = .slice (some ⟨cb, 0, none⟩) cs.length cap ∧ cs.length ≤ cap ∧ cap ≤ maxLen ∧
      ∀ (i : Nat) (c : HC), cs[i]? = some c → ∃ v, vs[i]? = some v ∧ CellAt w cb i c v := by
  obtain ⟨cb, cap, rfl, h1, h2, hr⟩ := owns_some h.row hne
  refine ⟨cb, cap, rfl, h1, h2, fun i c hi => ?_⟩
  have hv : i < vs.length := by rw [h.len]; exact (List.getElem?_eq_some_iff.1 hi).1
  have := flat_get cs vs i c vs[i] hi (by simp)
  exact ⟨vs[i], by simp, hr.cell this.1, hr.cell this.2.1, hr.cell this.2.2, hr.frozen _, hr.frozen _, hr.frozen _, h.refs i c vs[i] hi (by simp)⟩

def fol (cs : List HC) : Nat → Nat → Option Nat
  | 0, _ => none
  | n + 1, r => match cs[r]? with
    | none => none
    | some c => if c.kind = 3 then (match c.refs with | t :: _ => if 0 ≤ t then fol cs n t.toNat else none | [] => none) else some r

theorem fol_lt {cs : List HC} : ∀ {n r t : Nat}, fol cs n r = some t → t < cs.length ∧ r < cs.length ∧ ∃ c, cs[t]? = some c ∧ c.kind ≠ 3
  | 0, _, _, h => by simp [fol] at h
  | n + 1, r, t, h => by
    unfold fol at h
    split at h
    · cases h
    · rename_i c hc
      have hr := (List.getElem?_eq_some_iff.1 hc).1
      split at h
      · split at h
        · split at h
          · have := fol_lt h; exact ⟨this.1, hr, this.2.2⟩
          · cases h
        · cases h
      · cases h; exact ⟨hr, hr, c, hc, by assumption⟩

end Go.Proofs.Ytlpgonnionbkfaa
