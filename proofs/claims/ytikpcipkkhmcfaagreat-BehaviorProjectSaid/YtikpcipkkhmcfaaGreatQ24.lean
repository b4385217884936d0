/- slices.SortFunc of a row of sets by slices.Compare: the values carry what they hold. -/
import Derived.Test.YtikpcipkkhmcfaaGreatQ23
import Derived.Test.YtikpcipkkhmcfaaGreatQ12
namespace Go.Proofs.YtikpcipkkhmcfaaGreat.Beh
open Go.Shelf Go.RowKit Go.Lib Go.Sort Go.Proofs.YtikpcipkkhmcfaaGreat Go.Proofs.YtikpcipkkhmcfaaGreat.Ind

/-! A row sorted in place (one cell an element). -/
theorem frm_sortedE {α : Type} [Inhabited α] {enc : α → Value} {w : World} {g n : Nat} {os : Array Obj} (d : Array α) : Frm [g] w (sortWorld enc w g 0 n d os) := by
 unfold sortWorld
 refine ⟨rfl, rfl, rfl, by simp, fun k hk hne => ?_⟩
 rw [heap_grow_old _ _ (by simpa using hk)]
 have : g ≠ k := fun e => hne (by simp [e])
 simp [putRow, mapBlock, Sort.ahead, Array.getElem?_modify, this]
theorem take_putCellsE {α : Type} {enc : α → Value} (cur : Array Value) (ts : List α) [Inhabited α] (h : ts.length ≤ cur.size) : (putCells enc 0 ts.toArray cur).toList.take ts.length = ts.map enc := by
 apply List.ext_getElem?
 intro j
 by_cases hj : j < ts.length
 ·rw [List.getElem?_take_of_lt hj, Array.getElem?_toList]
  simp [putCells, hj, show j < cur.size by omega]
 ·rw [List.getElem?_take_eq_none (by omega), List.getElem?_eq_none (by simp; omega)]
theorem owns_sortedE {α : Type} [Inhabited α] {enc : α → Value} {w : World} {base g cap m n : Nat} {e : TypeId} {os : Array Obj} {cur : Array Value} (ts : List α) (hl : ts.length = n) (hbase : base ≤ g) (hb : w.heap[g]? = some (.cells cur e (0, 0))) (h1 : n ≤ cap) (h2 : cap ≤ maxLen) (h3 : cur.size = cap * 1) :
  (sortWorld enc w g 0 m ts.toArray os).ownsRow base e 1 (.slice (some ⟨g, 0, none⟩) n cap) n (ts.map enc) := by
 have hg : g < w.heap.size := (Array.getElem?_eq_some_iff.1 hb).1
 have hh : (sortWorld enc w g 0 m ts.toArray os).heap[g]? = some (.cells (putCells enc 0 ts.toArray cur) e (0, 0)) := by
  unfold sortWorld
  rw [heap_grow_old _ _ (by simpa using hg)]
  simp [putRow, mapBlock, Sort.ahead, Array.getElem?_modify, hb, onCells]
 exact ⟨by simp [hl], .inr ⟨g, cap, _, rfl, hbase, hh, h1, h2, by simp [putCells, h3], by rw [Nat.mul_one, ← hl]; exact take_putCellsE cur ts (by omega)⟩⟩

/-- A value that holds a set in the world w, outside F. -/
abbrev SV (w : World) (F : List Nat) := {p : PV // RowV w F p.1 p.2.length 1 (ints p.2)}
instance (w : World) (F : List Nat) : Inhabited (SV w F) := ⟨⟨(.slice none 0 0, []), RowV.nil0 w F 1⟩⟩
def svE {w : World} {F : List Nat} (x : SV w F) : Value := x.1.1
def svC {w : World} {F : List Nat} (x y : SV w F) : Int := cmpL x.1.2 y.1.2
theorem svLt {w : World} {F : List Nat} (x y : SV w F) : ltOf svC x y = ltL x.1.2 y.1.2 := by
 unfold ltOf svC
 rw [Bool.eq_iff_iff, decide_eq_true_eq, cmpL_neg]
theorem svO (w : World) (F : List Nat) : SWO (ltOf (svC (w := w) (F := F))) where
 irrefl x := by rw [svLt, sto_list.irr]
 trans x y z h1 h2 := by
  rw [svLt] at *
  exact sto_list.trans _ _ _ h1 h2
 ntrans x y z h1 h2 := by
  rw [svLt] at *
  cases h : ltL x.1.2 z.1.2 with
  | false => rfl
  | true =>
   by_cases e : y.1.2 = x.1.2
   ·rw [e, h] at h2; cases h2
   ·have h3 : ltL y.1.2 x.1.2 = true := by
     cases h4 : ltL y.1.2 x.1.2 with
     | true => rfl
     | false => exact absurd (sto_list.tri _ _ h4 h1) e
    rw [sto_list.trans _ _ _ h3 h] at h2
    cases h2
theorem egCmp : ∀ args w, (callFunc 79 args).run Tryz.prog w = .ok (.enter 79 args) w := enters_of Tryz.func79 (by kernel_rfl) rfl
theorem drewN_zero (w : World) : w.drewN 0 = w := rfl
theorem holdsE {α : Type} [Inhabited α] {enc : α → Value} {w : World} {g : Nat} {cur : Array Value} {e : TypeId} {ss : List α} (hb : w.heap[g]? = some (.cells cur e (0, 0))) (ht : cur.toList.take ss.length = ss.map enc) : Holds enc w g 0 ss.toArray := by
 intro j hj
 have hj' : j < ss.length := by simpa using hj
 refine ⟨?_, by simp [World.frozen?, hb]⟩
 have h1 : (cur.toList.take ss.length)[j]? = (ss.map enc)[j]? := by rw [ht]
 rw [List.getElem?_take_of_lt hj'] at h1
 simp only [World.cell?, hb, Nat.zero_add]
 simp only [Option.isSome_none, Bool.false_eq_true, if_false]
 rw [← Array.getElem?_toList, h1]
 simp [hj']
/-- Of a list of sets in memory: each with what it holds. -/
def svL {w : World} {F : List Nat} : (ps : List PV) → PsAt w F ps → List (SV w F)
 | [], _ => []
 | p :: r, h => ⟨p, h p (by simp)⟩ :: svL r (fun q hq => h q (List.mem_cons_of_mem _ hq))
theorem svL_map {w : World} {F : List Nat} : ∀ (ps : List PV) (h : PsAt w F ps), (svL ps h).map (·.1) = ps
 | [], _ => rfl
 | p :: r, _ => congrArg (p :: ·) (svL_map r _)
theorem sortS_any (B : Nat) (F : List Nat) (a : Option Addr) (cap n : Nat) (ps : List PV) (w : World) (h : w.ownsRow B 22 1 (.slice a n cap) n (ps.map (·.1))) (hl : ps.length = n) (hp : PsAt w F ps) (hF : ∀ k, (Value.slice a n cap).ownBlock = some k → k ∈ F) (hn : n ≤ 5864062014805) :
  Calls Tryz.prog 103 #[.slice a n cap, .func (.func 79) #[] #[]] w fun e w' => (e = .returned (.tuple #[]) ∧ ∃ qs : List PV, qs.Perm ps ∧ qs.Pairwise (fun x y => ltL y.2 x.2 = false) ∧ w'.ownsRow B 22 1 (.slice a n cap) n (qs.map (·.1))) ∧ Frm (Value.slice a n cap).ownBlock.toList w w' := by
 subst hl
 rcases h.2 with ⟨h0, h1⟩ | ⟨g, cp, cur, h0, hb, hg, h1, h2, h3, h4⟩
 ·have hx : ps = [] := List.eq_nil_of_length_eq_zero h1
  subst hx
  refine (Tryz.slices_SortFunc_none (α := Nat) a cap _ w).mono ?_
  rintro e w' ⟨rfl, rfl⟩
  exact ⟨⟨rfl, [], List.Perm.refl _, List.Pairwise.nil, h⟩, Frm.refl _ _⟩
 ·obtain ⟨rfl, rfl⟩ : a = some ⟨g, 0, none⟩ ∧ cap = cp := by simpa using h0
  rw [Nat.mul_one] at h4
  have hgF : g ∈ F := hF g rfl
  have hm := svL_map ps hp
  have hlen : (svL ps hp).length = ps.length := by rw [← List.length_map (f := fun x : SV w F => x.1), hm]
  have h4' : cur.toList.take (svL ps hp).length = (svL ps hp).map svE := by
   rw [hlen, h4]
   show ps.map (·.1) = (svL ps hp).map svE
   rw [show (svE (w := w) (F := F)) = (fun p : PV => p.1) ∘ (fun x : SV w F => x.1) from rfl, ← List.map_map, hm]
  have hH := holdsE (enc := svE (w := w) (F := F)) hg h4'
  have hgl := (Array.getElem?_eq_some_iff.1 hg).1
  have hsz : (svL ps hp).toArray.size = ps.length := by rw [List.size_toArray, hlen]
  have hcall := Tryz.slices_SortFunc (svE (w := w) (F := F)) (fun x => by
   obtain ⟨a, c, e⟩ := x.2.shape
   show x.1.1.oneCell' = true
   rw [e]; rfl) svC (svO w F) 79 #[] g 0 cap (svL ps hp).toArray w egCmp (fun m os dk _ x y => by
   have hf : Frm [g] w (sortWorld svE w g 0 m dk os) := frm_sortedE dk
   have hx := x.2.frm hf (fun k hk => .inl (by rw [List.mem_singleton.1 hk]; exact hgF))
   have hy := y.2.frm hf (fun k hk => .inl (by rw [List.mem_singleton.1 hk]; exact hgF))
   obtain ⟨ax, cx, ex⟩ := hx.shape
   obtain ⟨ay, cy, ey⟩ := hy.shape
   rw [ex] at hx
   rw [ey] at hy
   have := cmpL_any (sortWorld svE w g 0 m dk os).heap.size ax ay cx cy x.1.2 y.1.2 _ hx.rd hy.rd
   rw [← ex, ← ey] at this
   refine this.mono ?_
   rintro e w1 ⟨he, rfl⟩
   exact ⟨he, 0, #[], by rw [drewN_zero, grow_empty]⟩) hH hgl (by rw [hsz]; omega)
  rw [hsz] at hcall
  refine hcall.mono ?_
  rintro e w' ⟨rfl, d', k, os, hpm, hso, rfl⟩
  have hd : d'.size = ps.length := by rw [hpm.1, hsz]
  have hperm : d'.toList.Perm (svL ps hp) := by
   have h5 := hpm.2.2
   rw [Array.extract_eq_self_of_le (Nat.le_of_eq hd), Array.extract_eq_self_of_le (by rw [hsz]; exact Nat.le_refl _)] at h5
   exact h5
  refine ⟨⟨rfl, d'.toList.map (·.1), ?_, ?_, ?_⟩, ?_⟩
  ·have := hperm.map (fun x : SV w F => x.1)
   rw [hm] at this
   exact this
  ·rw [List.pairwise_map, List.pairwise_iff_getElem]
   intro i j hi hj hij
   have hjl : j < ps.length := by rw [← hd]; simpa using hj
   have h5 := hso i j (Nat.zero_le _) hij (by omega)
   rw [svLt] at h5
   rw [getElem!_pos d' i (by omega), getElem!_pos d' j (by omega)] at h5
   simpa using h5
  ·have := owns_sortedE (enc := svE (w := w) (F := F)) (m := k) (os := os) (cap := cap) d'.toList (by simpa using hd) hb hg h1 h2 h3
   rw [List.map_map]
   exact this
  ·have h9 : Frm [g] w (sortWorld (svE (w := w) (F := F)) w g 0 k d' os) := frm_sortedE d'
   exact h9
end Go.Proofs.YtikpcipkkhmcfaaGreat.Beh
