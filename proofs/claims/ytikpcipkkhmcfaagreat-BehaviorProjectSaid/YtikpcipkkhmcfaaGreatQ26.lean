/- slices.CompactFunc of a row of sets by slices.Equal. (After KL, KM.) -/
import Derived.Test.YtikpcipkkhmcfaaGreatQ24
import Derived.Test.YtikpcipkkhmcfaaGreatQ25
import Derived.Laws.IdiomCopy
namespace Go.Proofs.YtikpcipkkhmcfaaGreat.Beh
open Go.Shelf Go.RowKit Go.Lib Go.Sort Go.Proofs.YtikpcipkkhmcfaaGreat Go.Proofs.YtikpcipkkhmcfaaGreat.Ind

theorem owns_cut {w : World} {B e size n k cap : Nat} {a : Option Addr} {xs : List Value} (h : w.ownsRow B e size (.slice a n cap) n xs) (hk : k ≤ n) (h0 : 0 < n) : w.ownsRow B e size (.slice a k cap) k (xs.take (k * size)) := by
 have hl := h.1
 have hle : k * size ≤ n * size := Nat.mul_le_mul_right size hk
 refine ⟨by rw [List.length_take, hl]; omega, ?_⟩
 rcases h.2 with ⟨h1, h2⟩ | ⟨g, cp, cur, h1, hb, hg, h2, h3, h4, h5⟩
 ·omega
 ·obtain ⟨rfl, rfl⟩ : a = some ⟨g, 0, none⟩ ∧ cap = cp := by simpa using h1
  refine .inr ⟨g, cap, cur, rfl, hb, hg, Nat.le_trans hk h2, h3, h4, ?_⟩
  rw [← h5, List.take_take, Nat.min_eq_left hle]
/-- Cells set one behind the other. -/
def setL (xs : List Value) (o : Nat) : List Value → List Value
 | [] => xs
 | v :: r => setL (xs.set o v) (o + 1) r
theorem setL_take : ∀ (vs xs : List Value) (o k : Nat), k ≤ o → (setL xs o vs).take k = xs.take k
 | [], _, _, _, _ => rfl
 | v :: r, xs, o, k, h => by
  rw [setL, setL_take r _ (o + 1) k (by omega)]
  apply List.ext_getElem?
  intro i
  rw [List.getElem?_take, List.getElem?_take, List.getElem?_set]
  split
  ·split
   ·omega
   ·rfl
  ·rfl
theorem owns_setCells {B e size n : Nat} {v : Value} {g : Nat} (hg : v.ownBlock = some g) : ∀ (vs : List Value) (o : Nat) (w : World) (xs : List Value), w.ownsRow B e size v n xs → (w.setCells g o vs).ownsRow B e size v n (setL xs o vs)
 | [], _, _, _, h => h
 | u :: r, o, w, xs, h => by
  rw [World.setCells, setL]
  exact owns_setCells hg r (o + 1) _ _ (ownsB_setCell h hg o u)
theorem frm_setCells {g : Nat} : ∀ (vs : List Value) (o : Nat) (w : World), Frm [g] w (w.setCells g o vs)
 | [], _, _ => Frm.refl _ _
 | u :: r, o, w => by
  rw [World.setCells]
  exact ((Frm.refl [g] w).setCell (p := ⟨g, o, none⟩) (.inl (by simp)) u).trans (frm_setCells r (o + 1) _) (fun x hx => .inl hx)
theorem set1 (l : List PV) (k : Nat) (x : PV) : (l.set k x).map (·.1) = setL (l.map (·.1)) k [x.1] := by
 rw [setL, setL, List.map_set]
theorem egEq : ∀ args w, (callFunc 70 args).run Tryz.prog w = .ok (.enter 70 args) w := enters_of Tryz.func70 (by kernel_rfl) rfl
theorem take_last {α : Type} {l : List α} {k : Nat} {x : α} (h : l[k]? = some x) : (l.take (k + 1)).getLast? = some x := by
 rw [take_snoc h]; simp
theorem take_set_snoc {α : Type} {l : List α} {k : Nat} {y : α} (h : k < l.length) : (l.set k y).take (k + 1) = l.take k ++ [y] := by
 have e1 : (l.set k y)[k]? = some y := by simp [h]
 rw [take_snoc e1, List.take_set, List.set_eq_of_length_le (by rw [List.length_take]; omega)]
def clearS (n : Nat) : List Value := (Builtin.zeroCells (Value.slice none 0 0).cells n).toList
theorem clearS_len (n : Nat) : (clearS n).length = n := by
 simp [clearS, Builtin.zeroCells, Value.cells]
theorem clearS_one (n : Nat) : ∀ v ∈ clearS n, v.oneCell' = true := by
 intro v hv
 simp only [clearS, Builtin.zeroCells, Value.cells] at hv
 simp at hv
 obtain ⟨i, _, rfl⟩ := hv
 rw [Nat.mod_one]; rfl
theorem clear1 (t e : TypeId) (w : World) (b o n c : Nat) (ht : Tryz.prog.underlying t = some (.slice e)) (hv : ∀ w, (zeroValue e).run Tryz.prog w = .ok (.slice none 0 0) w) (hn : 0 < n)
  (hc : ∀ j, j < n → (w.cell? ⟨b, o + j, none⟩).isSome = true) (hf : ∀ j, j < n → w.frozen? ⟨b, o + j, none⟩ = false) (ty : TypeId) :
  (Builtin.clear_ #[t] ty #[.slice (some ⟨b, o, none⟩) n c]).run Tryz.prog w = .ok (.tuple #[]) (w.setCells b o (clearS n)) := by
 have hst := run_storeCells_cells (P := Tryz.prog) b o (clearS n) 0 w (by rw [clearS_len]; simpa using hc) (by rw [clearS_len]; simpa using hf) (clearS_one n)
 simp only [Nat.add_zero] at hst
 obtain ⟨m, rfl⟩ : ∃ m, n = m + 1 := ⟨n - 1, by omega⟩
 have hcl : (Builtin.zeroCells (Value.slice none 0 0).cells (m + 1)).toList = clearS (m + 1) := rfl
 simp only [Builtin.clear_]
 simp [run_underlying ht, hv, hcl, hst]
/-- What holds inside the second loop. -/
def Cpt (w wr : World) (B g n cap : Nat) (xs : List PV) (k p : Nat) (cur : List PV) : Prop :=
 cur.length = n ∧ cur.take k = compF (xs.take p) ∧ (∀ i, p ≤ i + 1 → cur[i]? = xs[i]?) ∧ wr.ownsRow B 22 1 (.slice (some ⟨g, 0, none⟩) n cap) n (cur.map (·.1)) ∧ Frm [g] w wr
/-- What CompactFunc hands back. -/
def CptEnd (w : World) (B : Nat) (a : Option Addr) (cap : Nat) (xs : List PV) (e : Ending) (w' : World) : Prop :=
 e = .returned (.slice a (compF xs).length cap) ∧ w'.ownsRow B 22 1 (.slice a (compF xs).length cap) (compF xs).length ((compF xs).map (·.1)) ∧ Frm (Value.slice a xs.length cap).ownBlock.toList w w'
theorem cell1 {w : World} {B n cap g : Nat} {l : List PV} (h : w.ownsRow B 22 1 (.slice (some ⟨g, 0, none⟩) n cap) n (l.map (·.1))) {i : Nat} {x : PV} (hx : l[i]? = some x) : w.cell? ⟨g, i, none⟩ = some x.1 :=
 ownC_cell (e := 22) (size := 1) (ownC_of h) (by rw [List.getElem?_map, hx]; rfl)

set_option linter.unusedSimpArgs false in
set_option maxRecDepth 100000 in
set_option maxHeartbeats 8000000 in
theorem compactS_any (B : Nat) (F : List Nat) (a : Option Addr) (cap : Nat) (xs : List PV) (w : World) (h : w.ownsRow B 22 1 (.slice a xs.length cap) xs.length (xs.map (·.1))) (hp : PsAt w F xs) (hF : ∀ k, (Value.slice a xs.length cap).ownBlock = some k → k ∈ F) (hn : xs.length ≤ 5864062014805) :
  Calls Tryz.prog 104 #[.slice a xs.length cap, .func (.func 70) #[] #[]] w (CptEnd w B a cap xs) := by
 have eg := egEq
 by_cases h2 : xs.length < 2
 ·have HC : Hid (compF xs = xs) := Lib.hid (by
   match xs, h2 with
   | [], _ => rfl
   | [_], _ => rfl)
  have H := Lib.hid h
  have i1 : (xs.length : Int) < 2 := by omega
  clear h h2 hp hF
  go_enter Tryz.func104, Tryz.ntmps104
  go_wp2_with fail
  go_ret
  refine ⟨?_, ?_, Frm.refl _ _⟩
  ·rw [HC.out]; rfl
  ·rw [HC.out]; exact H.out
 ·have i1 : ¬ (xs.length : Int) < 2 := by omega
  obtain ⟨g, cp, e0, hBg, hcap, hmax, hrow⟩ := ownsB_some h (by omega)
  obtain ⟨rfl, rfl⟩ : a = some ⟨g, 0, none⟩ ∧ cap = cp := by simpa using e0
  have hgF : g ∈ F := hF g rfl
  obtain ⟨n, hnn⟩ : ∃ n, n = xs.length := ⟨_, rfl⟩
  rw [← hnn] at h hn h2 i1 hcap ⊢
  have HN := Lib.hid hnn
  have H := Lib.hid h
  have HP := Lib.hid hp
  have hmx : (cap : Int) ≤ 9223372036854775807 := by unfold maxLen at hmax; omega
  have hcn : (n : Int) ≤ (cap : Int) := by omega
  have HEQ : Hid (∀ (W : World) (x y : PV), Frm [g] w W → x ∈ xs → y ∈ xs → Calls Tryz.prog 70 #[x.1, y.1] W fun e w' => e = .returned (.bool (decide (x.2 = y.2))) ∧ Frm [] W w') := Lib.hid fun W x y hf hx hy => by
   have hk : ∀ k ∈ [g], k ∈ F ∨ w.heap.size ≤ k := fun k hk => .inl (by rw [List.mem_singleton.1 hk]; exact hgF)
   exact equalI_any W x.1 y.1 x.2 y.2 ((hp x hx).frm hf hk) ((hp y hy).frm hf hk)
  clear h e0 hmax hrow hnn hcap hp hF
  have h2' : 2 ≤ n := by omega
  clear h2
  go_enter Tryz.func104, Tryz.ntmps104
  go_wp2_with fail
  go_loopg [5] (n - 1) (fun q i wr => ∃ (k : Nat), q = n - (k + 1) ∧ k + 1 ≤ n ∧ i = .int .i64 ((k + 1 : Nat) : Int) ∧ compF (xs.take (k + 1)) = xs.take (k + 1) ∧ Frm [] w wr)
  case atStart =>
   refine ⟨0, rfl, by omega, rfl, ?_, Frm.refl _ _⟩
   match xs with
   | [] => rfl
   | _ :: _ => rfl
  case round =>
   obtain ⟨k, rfl, hk, rfl, hc, hF⟩ := hrel
   have HF := Lib.hid hF
   have HC := Lib.hid hc
   have i4 : (0 : Int) ≤ ((k + 1 : Nat) : Int) := by omega
   have i3 : IntKind.i64.wrap (((k + 1 : Nat) : Int) - 1) = (k : Int) := by rw [IntWalk.i64_in _ (by omega)]; omega
   have i2 : (0 : Int) ≤ (k : Int) := by omega
   clear hF hc
   by_cases hlt : k + 1 < n
   ·have i5 : ((k + 1 : Nat) : Int) < (n : Int) := by omega
    have i6 : (k : Int) < (n : Int) := by omega
    obtain ⟨x, hx⟩ : ∃ x, xs[k]? = some x := ⟨_, List.getElem?_eq_getElem (by have := HN.out; omega)⟩
    obtain ⟨y, hy⟩ : ∃ y, xs[k + 1]? = some y := ⟨_, List.getElem?_eq_getElem (by have := HN.out; omega)⟩
    have hsn := compF_step (xs.take (k + 1)) y
    rw [take_last hx, ← take_snoc hy, HC.out] at hsn
    have hown := ownsB_frm H.out HF.out (by simp)
    have cx := cell1 hown hx
    have cy := cell1 hown hy
    have hcall := HEQ.out wr.drew y x ((HF.out.drew).mono (by simp)) (List.mem_of_getElem? hy) (List.mem_of_getElem? hx)
    obtain ⟨k1, hk1⟩ : ∃ k1, k1 = k + 1 := ⟨_, rfl⟩
    have HK1 := Lib.hid hk1
    rw [← hk1] at i4 i5 hlt cy hsn hk ⊢
    rw [← hk1] at HC i3
    have KEEP : Hid (∀ w', Frm [] wr w' → w'.cell? ⟨g, k1, none⟩ = some y.1 ∧ w'.cell? ⟨g, k, none⟩ = some x.1) := Lib.hid fun w' hf => ⟨hf.cell cy (by simp), hf.cell cx (by simp)⟩
    have HX := Lib.hid hx
    have HY : Hid (xs[k1]? = some y) := Lib.hid (by rw [hk1]; exact hy)
    clear hown cx cy hx hy hk1
    by_cases hxy : y.2 = x.2
    ·rw [decide_eq_true hxy] at hcall
     rw [if_pos (by rw [hxy]; rfl)] at hsn
     have HS := Lib.hid hsn
     have HCALL := Lib.hid hcall
     clear hsn hcall hxy
     go_wp2_with fail
     go_region_held3 (fun w' => w'.cell? ⟨g, k1, none⟩ = some y.1 ∧ w'.cell? ⟨g, k, none⟩ = some x.1)
      (first | exact KEEP.out _ (Frm.refl [] wr).drew | exact KEEP.out _ hy5)
      (first | (go_at_fn 70; refine HCALL.out.mono ?_; rintro e5 w5 ⟨rfl, hf5⟩; have hy5 := (Frm.refl [] wr).drew.trans hf5 (by simp)))
     have HF5 := Lib.hid (HF.out.trans hy5 (by simp))
     have i7 : (k1 : Int) ≤ (cap : Int) := by omega
     have i8 : IntKind.i64.wrap ((n : Int) - (k1 : Int)) = ((n - k1 : Nat) : Int) := by rw [IntWalk.i64_in _ (by omega)]; omega
     clear hy5 hf5
     have i9 : (0 : Int) ≤ (k1 : Int) := by omega
     go_wp2_with fail
     obtain ⟨nk, hnk⟩ : ∃ nk, n = k1 + nk := ⟨n - k1, by omega⟩
     have HNK := Lib.hid hnk
     have en : n - k1 = nk := by omega
     rw [en]
     have HS0 : Hid (xs.take k1 = compF (xs.take (k1 + 1))) := Lib.hid (by rw [HS.out])
     have hnk1 : 1 ≤ nk := by omega
     clear en hnk i3 i4 i5 i6 i2 hlt hk HX HY KEEP HCALL i8 HK1 HC HF HS
     go_loopg [5, 7] (n - (k1 + 1)) (fun q t5 t7 wr => ∃ (l kk : Nat) (cur : List PV), q = n - (k1 + l + 1) ∧ l + 1 ≤ nk ∧ k1 ≤ kk ∧ kk ≤ k1 + l ∧ t5 = .int .i64 kk ∧ t7 = .int .i64 ((l + 1 : Nat) : Int) ∧ Cpt w wr B g n cap xs kk (k1 + l + 1) cur)
     case atStart =>
      exact ⟨0, k1, xs, rfl, by omega, by omega, by omega, rfl, rfl, HN.out.symm, HS0.out, fun _ _ => rfl, ownsB_frm H.out HF5.out (by simp), HF5.out.mono (by simp)⟩
     case round =>
      obtain ⟨l, kk, cur, rfl, hl, hk1k, hkl, rfl, rfl, hcl, hct, hcx, hco, hcf⟩ := hrel
      have HCL := Lib.hid hcl
      have HCT := Lib.hid hct
      have HCX := Lib.hid hcx
      have HCO := Lib.hid hco
      have HCF := Lib.hid hcf
      have i4 : (0 : Int) ≤ ((l + 1 : Nat) : Int) := by omega
      have i3 : IntKind.i64.wrap (((l + 1 : Nat) : Int) - 1) = (l : Int) := by rw [IntWalk.i64_in _ (by have := HNK.out; omega)]; omega
      have i2 : (0 : Int) ≤ (l : Int) := by omega
      have i10 : (0 : Int) ≤ (kk : Int) := by omega
      have i11 : (kk : Int) < (n : Int) := by have := HNK.out; omega
      clear hcl hct hcx hco hcf
      by_cases hlt : l + 1 < nk
      ·have i5 : ((l + 1 : Nat) : Int) < (nk : Int) := by omega
       have i6 : (l : Int) < (nk : Int) := by omega
       obtain ⟨x, hx⟩ : ∃ x, xs[k1 + l]? = some x := ⟨_, List.getElem?_eq_getElem (by have := HN.out; have := HNK.out; omega)⟩
       obtain ⟨⟨y1, y2⟩, hy⟩ : ∃ y, xs[k1 + l + 1]? = some y := ⟨_, List.getElem?_eq_getElem (by have := HN.out; have := HNK.out; omega)⟩
       obtain ⟨ya, yc, ex⟩ : ∃ a c, y1 = .slice a y2.length c := RowV.shape (HP.out (y1, y2) (List.mem_of_getElem? hy))
       subst ex
       have hsn := compF_step (xs.take (k1 + l + 1)) (.slice ya y2.length yc, y2)
       rw [take_last hx, ← take_snoc hy, ← HCT.out] at hsn
       have cx := cell1 HCO.out (show cur[k1 + l]? = some x by rw [HCX.out _ (by omega)]; exact hx)
       have cy := cell1 HCO.out (show cur[k1 + (l + 1)]? = some (.slice ya y2.length yc, y2) by rw [HCX.out _ (by omega)]; exact hy)
       have hcall := HEQ.out wr.drew (.slice ya y2.length yc, y2) x HCF.out.drew (List.mem_of_getElem? hy) (List.mem_of_getElem? hx)
       dsimp only at hcall hsn
       obtain ⟨l1, hl1⟩ : ∃ l1, l1 = l + 1 := ⟨_, rfl⟩
       have HL1 := Lib.hid hl1
       rw [← hl1] at i4 i5 hlt cy hl i3 ⊢
       have i12 : (l1 : Int) ≤ 5864062014805 := by have := HNK.out; omega
       have KEEP : Hid (∀ w', Frm [] wr w' → w'.cell? ⟨g, k1 + l1, none⟩ = some (.slice ya y2.length yc) ∧ w'.cell? ⟨g, k1 + l, none⟩ = some x.1) := Lib.hid fun w' hf => ⟨hf.cell cy (by simp), hf.cell cx (by simp)⟩
       clear cx cy hx hl1
       by_cases hxy : y2 = x.2
       ·rw [decide_eq_true hxy] at hcall
        rw [if_pos (by rw [hxy]; rfl)] at hsn
        have HS := Lib.hid hsn
        have HCALL := Lib.hid hcall
        clear hsn hcall hxy hy
        go_wp2_with fail
        go_region_held3 (fun w' => w'.cell? ⟨g, k1 + l1, none⟩ = some (.slice ya y2.length yc) ∧ w'.cell? ⟨g, k1 + l, none⟩ = some x.1)
         (first | exact KEEP.out _ (Frm.refl [] wr).drew | exact KEEP.out _ hy5)
         (first | (go_at_fn 70; refine HCALL.out.mono ?_; rintro e5 w5 ⟨rfl, hf5⟩; have hy5 := (Frm.refl [] wr).drew.trans hf5 (by simp)))
        go_wp2_with fail
        go_roundg (n - (k1 + l1 + 1))
        case rel =>
         refine ⟨l1, kk, cur, rfl, by omega, by omega, by have := HL1.out; omega, rfl, by go_num, HCL.out, ?_, fun i hi => HCX.out i (by have := HL1.out; omega), ownsB_frm HCO.out hy5 (by simp), HCF.out.trans hy5 (by simp)⟩
         have e9 : k1 + l1 + 1 = k1 + l + 1 + 1 := by have := HL1.out; omega
         rw [e9, HS.out]
        case measure => have := HL1.out; have := HNK.out; omega
       ·rw [decide_eq_false hxy] at hcall
        rw [if_neg (fun h9 => hxy (by simpa using h9.symm))] at hsn
        have HS := Lib.hid hsn
        have HY := Lib.hid hy
        have HCALL := Lib.hid hcall
        clear hsn hcall hxy hy
        go_wp2_with fail
        go_region_held3 (fun w' => w'.cell? ⟨g, k1 + l1, none⟩ = some (.slice ya y2.length yc) ∧ w'.cell? ⟨g, k1 + l, none⟩ = some x.1)
         (first | exact KEEP.out _ (Frm.refl [] wr).drew | exact KEEP.out _ hy5)
         (first | (go_at_fn 70; refine HCALL.out.mono ?_; rintro e5 w5 ⟨rfl, hf5⟩; have hy5 := (Frm.refl [] wr).drew.trans hf5 (by simp)))
        obtain ⟨v0, v1⟩ := KEEP.out _ hy5
        have O5 := ownsB_frm HCO.out hy5 (by simp)
        obtain ⟨g9, cap9, e9, _, _, _, hrow⟩ := ownsB_some O5 (by have := HNK.out; omega)
        cases e9
        obtain ⟨z, hz⟩ : ∃ z, cur[kk]? = some z := ⟨_, List.getElem?_eq_getElem (by have := HCL.out; have := HNK.out; omega)⟩
        have b0 := cell1 O5 hz
        have z0 := hrow.frozen kk
        have HY5 := Lib.hid hy5
        have HO5 := Lib.hid O5
        clear hz hrow O5 hy5 hf5
        go_wp2_with fail
        have O6 := Lib.hid (owns_setCells (v := .slice (some ⟨g, 0, none⟩) n cap) rfl [.slice ya y2.length yc] kk _ _ HO5.out)
        have F6 := Lib.hid ((HCF.out.trans HY5.out (by simp)).trans (frm_setCells (g := g) [.slice ya y2.length yc] kk w5) (fun x hx => .inl hx))
        go_roundg (n - (k1 + l1 + 1))
        case rel =>
         have hkc : kk < cur.length := by have := HCL.out; have := HNK.out; omega
         refine ⟨l1, kk + 1, cur.set kk (.slice ya y2.length yc, y2), rfl, by omega, by omega, by have := HL1.out; omega, by go_num, by go_num, by rw [List.length_set]; exact HCL.out, ?_, fun i hi => ?_, ?_, F6.out⟩
         ·have e9 : k1 + l1 + 1 = k1 + l + 1 + 1 := by have := HL1.out; omega
          rw [e9, HS.out, take_set_snoc hkc]
         ·rw [List.getElem?_set_ne (by have := HL1.out; omega)]
          exact HCX.out i (by have := HL1.out; omega)
         ·rw [set1 cur kk]
          exact O6.out
        case measure => have := HL1.out; have := HNK.out; omega
      ·have i5 : ¬ ((l + 1 : Nat) : Int) < (nk : Int) := by omega
       have hp : k1 + l + 1 = n := by have := HNK.out; omega
       have HPP : Hid (cur.take kk = compF xs) := Lib.hid (by
        rw [HCT.out, hp, List.take_of_length_le (by have := HN.out; omega)])
       have hlen : (compF xs).length = kk := by
        rw [← HPP.out, List.length_take]
        have := HCL.out
        have := HNK.out
        omega
       have HLEN := Lib.hid hlen
       obtain ⟨g9, cap9, e9, _, _, _, hrow⟩ := ownsB_some HCO.out (by omega)
       cases e9
       have hc9 := HCO.out.1
       have i13 : (kk : Int) ≤ (cap : Int) := by omega
       have i14 : (kk : Int) ≤ (n : Int) := by omega
       have hcl := clear1 67 22 wr g kk (n - kk) (cap - kk) Tryz.underlying67 Tryz.zeroValue22 (by omega) (fun j hj => by
        have h9 : kk + j < (cur.map (·.1)).length := by rw [hc9]; omega
        rw [hrow.cell (List.getElem?_eq_getElem h9)]
        rfl) (fun j _ => hrow.frozen _)
       obtain ⟨zs, hzs⟩ : ∃ zs, zs = clearS (n - kk) := ⟨_, rfl⟩
       rw [← hzs] at hcl
       have HFR := Lib.hid (frm_setCells (g := g) zs kk wr)
       have hown := owns_setCells (v := .slice (some ⟨g, 0, none⟩) n cap) rfl zs kk wr _ HCO.out
       have hcut := owns_cut hown (show kk ≤ n by omega) (by omega)
       rw [Nat.mul_one, setL_take _ _ _ _ (Nat.le_refl _), ← List.map_take, HPP.out] at hcut
       have HCUT := Lib.hid hcut
       clear hrow hc9 hown hcut hzs hlen hp
       go_wp2_with fail
       go_ret
       refine ⟨?_, ?_, (HCF.out.trans HFR.out (fun x hx => .inl hx)).mono (by simp [Value.ownBlock])⟩
       ·rw [HLEN.out]; rfl
       ·rw [HLEN.out]; exact HCUT.out
    ·rw [decide_eq_false hxy] at hcall
     rw [if_neg (fun h9 => hxy (by simpa using h9.symm))] at hsn
     have HS : Hid (compF (xs.take (k1 + 1)) = xs.take (k1 + 1)) := Lib.hid (by
      have hy' : xs[k1]? = some y := HY.out
      rw [hsn, take_snoc hy'])
     have HCALL := Lib.hid hcall
     clear hsn hcall hxy
     go_wp2_with fail
     go_region_held3 (fun w' => w'.cell? ⟨g, k1, none⟩ = some y.1 ∧ w'.cell? ⟨g, k, none⟩ = some x.1)
      (first | exact KEEP.out _ (Frm.refl [] wr).drew | exact KEEP.out _ hy5)
      (first | (go_at_fn 70; refine HCALL.out.mono ?_; rintro e5 w5 ⟨rfl, hf5⟩; have hy5 := (Frm.refl [] wr).drew.trans hf5 (by simp)))
     go_wp2_with fail
     go_roundg (n - (k1 + 1))
     case rel => exact ⟨k1, rfl, by omega, by go_num, HS.out, HF.out.trans hy5 (by simp)⟩
     case measure => have := HK1.out; omega
   ·have i5 : ¬ ((k + 1 : Nat) : Int) < (n : Int) := by omega
    have HX : Hid (compF xs = xs) := Lib.hid (by
     have := HC.out
     rw [List.take_of_length_le (by have := HN.out; omega)] at this
     exact this)
    go_wp2_with fail
    go_ret
    refine ⟨?_, ?_, HF.out.mono (by simp)⟩
    ·rw [HX.out, ← HN.out]; rfl
    ·rw [HX.out, ← HN.out]; exact ownsB_frm H.out HF.out (by simp)
end Go.Proofs.YtikpcipkkhmcfaaGreat.Beh
