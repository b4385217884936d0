/- How the program's directory lies in a map; what the map's operations do to it. -/
import Derived.Test.YtkebdgbjgbcneaaDT
import Derived.Test.YtkebdgbjgbcneaaD1
import Derived.Maps.RangeWalk
import Derived.Maps.OwnSet
import Derived.Maps.Ext
import Derived.StringKeys
import Derived.Sort.EncStr
import Derived.StillTailTactics
namespace Go.Proofs.Ytkebdgbjgbcneaa
open Go.RowKit Go.Maps

abbrev str (s : Nm) : Value := .string ⟨s.toArray⟩
def ptrN (g : Nat) : Value := .pointer (some ⟨g, 0, none⟩)
def ptrO (bs : Nat → Nat) : Option Nat → Value
  | some i => .pointer (some ⟨bs i, 0, none⟩)
  | none => .pointer none
/-- How a pointer in a map is read: by its block. -/
def rdP : Value → Option (DataW Unit × List MemPlace)
  | .pointer (some ⟨g, 0, none⟩) => some (.lit (.int .i64 (g : Int)), [])
  | .pointer none => some (.lit (.int .i64 (-1)), [])
  | _ => none
theorem rdP_some (g : Nat) : rdP (.pointer (some ⟨g, 0, none⟩)) = some (.lit (.int .i64 (g : Int)), []) := rfl
theorem rdP_none : rdP (.pointer none) = some (.lit (.int .i64 (-1)), []) := rfl
theorem rdP_inv {v : Value} {z : DataW Unit × List MemPlace} (h : rdP v = some z) : (∃ g : Nat, v = .pointer (some ⟨g, 0, none⟩) ∧ z = (.lit (.int .i64 (g : Int)), [])) ∨ (v = .pointer none ∧ z = (.lit (.int .i64 (-1)), [])) := by
  unfold rdP at h
  split at h
  · rename_i g
    cases h
    exact .inl ⟨g, rfl, rfl⟩
  · cases h
    exact .inr ⟨rfl, rfl⟩
  · cases h
def valD (bs : Nat → Nat) : Option Nat → DataW Unit
  | some i => .lit (.int .i64 (bs i))
  | none => .lit (.int .i64 (-1))
theorem rdP_val {v : Value} {bs : Nat → Nat} {o : Option Nat} {ps : List MemPlace} (h : rdP v = some (valD bs o, ps)) : v = ptrO bs o := by
  cases o with
  | none =>
    rcases rdP_inv h with ⟨g, rfl, hz⟩ | ⟨rfl, _⟩
    · simp only [valD, Prod.mk.injEq, DataW.lit.injEq, Lit.int.injEq, true_and] at hz
      omega
    · rfl
  | some i =>
    rcases rdP_inv h with ⟨g, rfl, hz⟩ | ⟨rfl, hz⟩
    · simp only [valD, Prod.mk.injEq, DataW.lit.injEq, Lit.int.injEq, true_and] at hz
      have : g = bs i := by omega
      rw [this]; rfl
    · simp only [valD, Prod.mk.injEq, DataW.lit.injEq, Lit.int.injEq, true_and] at hz
      omega

def entD (bs : Nat → Nat) (p : Nm × Nat) : Lit × DataW Unit := (.string p.1, .lit (.int .i64 (bs p.2)))
def dirDat (bs : Nat → Nat) (l : Dir) : DataW Unit := .map (l.map (entD bs))
theorem same_str (s t : Nm) : (Lit.string s).sameKey (.string t) = (s == t) := rfl
theorem dir_filter (bs : Nat → Nat) (l : Dir) (s : Nm) : (l.map (entD bs)).filter (fun p => !p.1.sameKey (.string s)) = (withoutD l s).map (entD bs) := by
  rw [withoutD, List.filter_map]
  rfl
theorem dir_insert (bs : Nat → Nat) (s : Nm) (f : Nat) : ∀ l : Dir, DataW.insert (entD bs (s, f)) (l.map (entD bs)) = (insD s f l).map (entD bs)
  | [] => rfl
  | p :: r => by
    rw [insD, List.map_cons, DataW.insert]
    show (if bytesBefore s p.1 = true then _ else _) = _
    split
    · rfl
    · rw [dir_insert bs s f r, List.map_cons]
theorem dir_put (bs : Nat → Nat) (l : Dir) (s : Nm) (f : Nat) : (dirDat bs l).put (.string s) (.lit (.int .i64 (bs f))) = dirDat bs (withD l s f) := by
  show DataW.map (DataW.insert (entD bs (s, f)) ((l.map (entD bs)).filter fun p => !p.1.sameKey (.string s))) = _
  rw [dir_filter, dir_insert]
  rfl
theorem dir_del (bs : Nat → Nat) (l : Dir) (s : Nm) : (dirDat bs l).del (.string s) = dirDat bs (withoutD l s) := by
  show DataW.map ((l.map (entD bs)).filter fun p => !p.1.sameKey (.string s)) = _
  rw [dir_filter]
  rfl
theorem dir_find (bs : Nat → Nat) (l : Dir) (s : Nm) : (l.map (entD bs)).find? (fun p => p.1.sameKey (.string s)) = (l.find? fun p => p.1 == s).map (entD bs) := by
  rw [List.find?_map]
  rfl
theorem dir_at (bs : Nat → Nat) (l : Dir) (s : Nm) : (dirDat bs l).atKey (.string s) (.lit (.int .i64 (-1))) = valD bs (findD l s) := by
  rw [dirDat, DataW.atKey, dir_find, findD]
  cases l.find? (fun p => p.1 == s) <;> rfl
theorem dir_size (bs : Nat → Nat) (l : Dir) : size (dirDat bs l) = l.length := by simp [dirDat, size]
theorem dir_has (bs : Nat → Nat) (l : Dir) (s : Nm) : has (dirDat bs l) (.string s) = (findD l s).isSome := by
  rw [dirDat, has_eq, List.any_map, findD, Option.isSome_map, Bool.eq_iff_iff, List.find?_isSome, List.any_eq_true]
  rfl

theorem keyed_s : Keyed Try.prog 9 := string_keyed Try.underlying9
theorem zero_p (w : World) : (zeroValue 59).run Try.prog w = .ok (.pointer none) w := Try.zeroValue59 w
theorem key_s {s : Nm} (h : s.length ≤ maxLen) : keyOf Try.prog 9 (str s) = some (.string s) := Go.WideMaps.keyOf_string_mk Try.underlying9 (s := ⟨s.toArray⟩) h

/-- Block b is the map of a directory whose files lie at the blocks bs. -/
def MapD (w : World) (b : Nat) (bs : Nat → Nat) (l : Dir) : Prop := w.ownsMap Try.prog 9 rdP b l.length (dirDat bs l)
theorem own_tight {w : World} {P : Program} {k : TypeId} {R : Value → Option (DataW Unit × List MemPlace)} {b n : Nat} {D : DataW Unit} (h : w.ownsMap P k R b n D) : w.ownsMap P k R b (size D) D := by
  obtain ⟨es, clock, hb, F, hs, rfl⟩ := h
  exact ⟨es, clock, hb, F, by simp [size, length_sorted], rfl⟩

section
variable {w w' : World} {b : Nat} {bs : Nat → Nat} {l : Dir}
theorem MapD.of {n : Nat} (h : w.ownsMap Try.prog 9 rdP b n (dirDat bs l)) : MapD w b bs l := by
  have := own_tight h
  rwa [dir_size] at this
theorem MapD.made (w : World) (bs : Nat → Nat) : MapD (w.alloc (.map #[] 0)) w.heap.size bs [] := World.ownsMap_made w _ _ _
theorem MapD.lt (h : MapD w b bs l) : b < w.heap.size := World.ownsMap.lt h
theorem MapD.block (h : MapD w b bs l) (hb : w'.heap[b]? = w.heap[b]?) : MapD w' b bs l := by
  obtain ⟨es, clock, h1, h2⟩ := h
  exact ⟨es, clock, by rw [hb]; exact h1, h2⟩
theorem MapD.frm {fp : List Nat} (h : MapD w b bs l) (hf : Frm fp w w') (hn : b ∉ fp) : MapD w' b bs l := h.block (hf.block b h.lt hn)
theorem MapD.ne_row {g e : Nat} {xs : List Value} (h : MapD w b bs l) (hr : RowAt w g e xs) : g ≠ b := by
  obtain ⟨es, clock, h1, h2⟩ := h
  obtain ⟨cur, hg, _⟩ := hr
  intro e
  subst e
  rw [hg] at h1
  cases h1
theorem MapD.look (h : MapD w b bs l) {s : Nm} (hs : s.length ≤ maxLen) : (Instr.lookup 55 (.map (some b)) (str s) false).run Try.prog w = .ok (ptrO bs (findD l s)) w := by
  obtain ⟨v, ps, hrun, hv⟩ := World.ownsMap.lookup h keyed_s Try.underlying55 (zero_p w) rdP_none (key_s hs)
  rw [dir_at] at hv
  rw [hrun, rdP_val hv]
theorem MapD.len (h : MapD w b bs l) (ty : TypeId) : (Builtin.len_ #[55] ty #[.map (some b)]).run Try.prog w = .ok (.int .i64 (l.length : Int)) w := by
  have := World.ownsMap.len h Try.underlying55 ty
  rwa [dir_size] at this
theorem turned_frm {row : Nat} (h : w.mapTurned w' row) : Frm [row] w w' := (Frm.refl [row] w).grown h.grown (fun k hk => .inl (by simpa using hk.symm))
end

section
variable {w : World} {ops : Array Oper} {rest : List Oper} {o : Oper} {a : Act} {Q : Exit → Act → World → Prop}
theorem wpl_put (hg : o.guard = none) (m x v : Operand) (hop : o.op = Op.mapUpdate 55 m x v) (b : Nat) (bs : Nat → Nat) (l : Dir) (hm : a.eval m = .map (some b)) (hown : MapD w b bs l) (hn : l.length < maxLen) (s : Nm) (f : Nat) (hx : a.eval x = str s) (hv : a.eval v = .pointer (some ⟨bs f, 0, none⟩)) (hs : s.length ≤ maxLen)
    (hK : ∀ w', MapD w' b bs (withD l s f) → Frm [b] w w' → wpList Try.prog ops Q rest (a.put o.dst undef) w') : wpList Try.prog ops Q (o :: rest) a w :=
  wpList_mapUpdate_in w hg m x v 55 hop 9 59 keyed_s Try.underlying55 rdP b _ _ hm hown hn _ _ _ hx hv (key_s hs) _ [] (rdP_some _)
    (fun w' h1 h2 => hK w' (MapD.of (by rw [← dir_put]; exact h1)) (turned_frm h2))
theorem wpl_del (hg : o.guard = none) (m x : Operand) (hop : o.op = Op.call { callee := Callee.builtin Builtin.delete, args := #[m, x], argTypes := #[55, 9] }) (b : Nat) (bs : Nat → Nat) (l : Dir) (hm : a.eval m = .map (some b)) (hown : MapD w b bs l) (s : Nm) (hx : a.eval x = str s) (hs : s.length ≤ maxLen)
    (hK : ∀ w', MapD w' b bs (withoutD l s) → Frm [b] w w' → wpList Try.prog ops Q rest (a.put o.dst (.tuple #[])) w') : wpList Try.prog ops Q (o :: rest) a w :=
  wpList_delete_own w hg m x 55 9 hop 59 keyed_s Try.underlying55 rdP b _ _ hm hown _ _ hx (key_s hs)
    (fun w' h1 h2 => hK w' (MapD.of (by rw [← dir_del]; exact h1)) (turned_frm h2))
end

end Go.Proofs.Ytkebdgbjgbcneaa
