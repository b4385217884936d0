/- Texts KM, KN. -/
import Derived.Test.YtdknbgejhhoaiaaGreatQ19
/- Contract of slices.CompactFunc over the arcs of an instance: the walk. -/
namespace Go.Proofs.YtdknbgejhhoaiaaGreat.Ind
open Go.Shelf Go.RowKit Go.Lib Go.Sort

theorem eg49 : ∀ args w, (callFunc 35 args).run Tryz.prog w = .ok (.enter 35 args) w := enters_of Tryz.func35 (by kernel_rfl) rfl
theorem cells6 {w : World} {B n cap g : Nat} {l : List M6} (h : w.ownsRow B 74 6 (.slice (some ⟨g, 0, none⟩) n cap) n (l.flatMap enc6)) {i : Nat} {x : M6} (hx : l[i]? = some x) : ∀ (j : Nat) (u : Value), j < 6 → (enc6 x)[j]? = some u → w.cell? ⟨g, i * 6 + j, none⟩ = some u := by
  intro j u hj hu
  have hn : 0 < n := by
    have h1 := h.1
    rw [flatMap_len (enc := enc6) (k := 6) (fun _ => rfl)] at h1
    have h2 := (List.getElem?_eq_some_iff.1 hx).1
    omega
  obtain ⟨g', cap', e, _, _, _, hr⟩ := ownsB_some h hn
  cases e
  exact hr.cell (by rw [flatMap_get (enc := enc6) (k := 6) (fun _ => rfl) hx j hj]; exact hu)
theorem take_set_snoc {α : Type} {l : List α} {k : Nat} {y : α} (h : k < l.length) : (l.set k y).take (k + 1) = l.take k ++ [y] := by
  have e1 : (l.set k y)[k]? = some y := by simp [h]
  rw [take_snoc e1, List.take_set, List.set_eq_of_length_le (by rw [List.length_take]; omega)]
theorem flatMap_take (l : List M6) (k : Nat) : (l.flatMap enc6).take (k * 6) = (l.take k).flatMap enc6 := by
  have h := flatMap_len (enc := enc6) (k := 6) (fun _ => rfl)
  by_cases hk : k ≤ l.length
  · have e : l.flatMap enc6 = (l.take k).flatMap enc6 ++ (l.drop k).flatMap enc6 := by rw [← List.flatMap_append, List.take_append_drop]
    rw [e, List.take_left' (by rw [h, List.length_take, Nat.min_eq_left hk])]
  · rw [List.take_of_length_le (by rw [h]; omega), List.take_of_length_le (by omega)]
/-- The zero arcs of an instance. -/
def clearL (n : Nat) : List Value := (Builtin.zeroCells (Value.agg #[.int .i64 0, .int .i64 0, .int .i64 0, .int .i64 0, .int .i64 0, .int .i64 0]).cells n).toList
theorem clearL_len (n : Nat) : (clearL n).length = n * 6 := by
  simp [clearL, Builtin.zeroCells, Value.cells]
theorem clearL_one (n : Nat) : ∀ v ∈ clearL n, v.oneCell' = true := by
  intro v hv
  simp only [clearL, Builtin.zeroCells, Value.cells] at hv
  simp at hv
  obtain ⟨i, _, rfl⟩ := hv
  have hm : i % 6 < 6 := Nat.mod_lt _ (by decide)
  have h6 : i % 6 = 0 ∨ i % 6 = 1 ∨ i % 6 = 2 ∨ i % 6 = 3 ∨ i % 6 = 4 ∨ i % 6 = 5 := by omega
  rcases h6 with h | h | h | h | h | h <;> rw [h] <;> rfl
theorem clear6 (t e : TypeId) (w : World) (b o n c : Nat) (ht : Tryz.prog.underlying t = some (.slice e)) (hv : ∀ w, (zeroValue e).run Tryz.prog w = .ok (.agg #[.int .i64 0, .int .i64 0, .int .i64 0, .int .i64 0, .int .i64 0, .int .i64 0]) w) (hn : 0 < n)
    (hc : ∀ j, j < n * 6 → (w.cell? ⟨b, o + j, none⟩).isSome = true) (hf : ∀ j, j < n * 6 → w.frozen? ⟨b, o + j, none⟩ = false) (ty : TypeId) :
    (Builtin.clear_ #[t] ty #[.slice (some ⟨b, o, none⟩) n c]).run Tryz.prog w = .ok (.tuple #[]) (w.setCells b o (clearL n)) := by
  have hst := run_storeCells_cells (P := Tryz.prog) b o (clearL n) 0 w (by rw [clearL_len]; simpa using hc) (by rw [clearL_len]; simpa using hf) (clearL_one n)
  simp only [Nat.add_zero] at hst
  obtain ⟨m, rfl⟩ : ∃ m, n = m + 1 := ⟨n - 1, by omega⟩
  have hcl : (Builtin.zeroCells (Value.agg #[.int .i64 0, .int .i64 0, .int .i64 0, .int .i64 0, .int .i64 0, .int .i64 0]).cells (m + 1)).toList = clearL (m + 1) := rfl
  simp only [Builtin.clear_]
  simp [run_underlying ht, hv, hcl, hst]
/-- What holds inside the second loop. -/
def Cpt (w wr : World) (B g n cap : Nat) (xs : List M6) (k p : Nat) (cur : List M6) : Prop :=
  cur.length = n ∧ cur.take k = compG (xs.take p) ∧ (∀ i, p ≤ i + 1 → cur[i]? = xs[i]?) ∧ wr.ownsRow B 74 6 (.slice (some ⟨g, 0, none⟩) n cap) n (cur.flatMap enc6) ∧ Frm [g] w wr
/-- What CompactFunc hands back. -/
def CptEnd (w : World) (B : Nat) (a : Option Addr) (cap : Nat) (xs : List M6) (e : Ending) (w' : World) : Prop :=
  e = .returned (.slice a (compG xs).length cap) ∧ w'.ownsRow B 74 6 (.slice a (compG xs).length cap) (compG xs).length ((compG xs).flatMap enc6) ∧ Frm (Value.slice a xs.length cap).ownBlock.toList w w'

set_option linter.unusedSimpArgs false in
set_option maxRecDepth 100000 in
set_option maxHeartbeats 8000000 in
theorem compact_any (B : Nat) (a : Option Addr) (cap : Nat) (xs : List M6) (w : World) (h : w.ownsRow B 74 6 (.slice a xs.length cap) xs.length (xs.flatMap enc6)) (hn : xs.length ≤ 10000000) :
    Calls Tryz.prog 34 #[.slice a xs.length cap, .func (.func 35) #[] #[]] w (CptEnd w B a cap xs) := by
  have eg := eg49
  by_cases h2 : xs.length < 2
  · have HC : Hid (compG xs = xs) := Lib.hid (by
      match xs, h2 with
      | [], _ => rfl
      | [_], _ => rfl)
    have H := Lib.hid h
    have i1 : (xs.length : Int) < 2 := by omega
    clear h h2
    go_enter Tryz.func34, Tryz.ntmps34
    go_wp2_with fail
    go_ret
    refine ⟨?_, ?_, Frm.refl _ _⟩
    · rw [HC.out]; rfl
    · rw [HC.out]; exact H.out
  · have i1 : ¬ (xs.length : Int) < 2 := by omega
    obtain ⟨g, cp, e0, hBg, hcap, hmax, hrow⟩ := ownsB_some h (by omega)
    obtain ⟨rfl, rfl⟩ : a = some ⟨g, 0, none⟩ ∧ cap = cp := by simpa using e0
    obtain ⟨n, hnn⟩ : ∃ n, n = xs.length := ⟨_, rfl⟩
    rw [← hnn] at h hn h2 i1 hcap ⊢
    have HN := Lib.hid hnn
    have H := Lib.hid h
    have hmx : (cap : Int) ≤ 9223372036854775807 := by unfold maxLen at hmax; omega
    have hcn : (n : Int) ≤ (cap : Int) := by omega
    clear h e0 hmax hrow hnn hcap
    have h2' : 2 ≤ n := by omega
    clear h2
    go_enter Tryz.func34, Tryz.ntmps34
    go_wp2_with fail
    go_loopg [5] (n - 1) (fun q i wr => ∃ (k : Nat), q = n - (k + 1) ∧ k + 1 ≤ n ∧ i = .int .i64 ((k + 1 : Nat) : Int) ∧ compG (xs.take (k + 1)) = xs.take (k + 1) ∧ Frm [] w wr)
    case atStart =>
      refine ⟨0, rfl, by omega, rfl, ?_, Frm.refl _ _⟩
      match xs with
      | [] => rfl
      | _ :: _ => rfl
    case round =>
      obtain ⟨k, rfl, hk, rfl, hc, hF⟩ := hrel
      have HF := Lib.hid hF
      have HC := Lib.hid hc
      have i4 : (0 : Int) ≤ ((k + 1 : Nat) : Int) := by omega
      have i3 : IntKind.i64.wrap (((k + 1 : Nat) : Int) - 1) = (k : Int) := by rw [IntWalk.i64_in _ (by omega)]; omega
      have i2 : (0 : Int) ≤ (k : Int) := by omega
      clear hF hc
      by_cases hlt : k + 1 < n
      · have i5 : ((k + 1 : Nat) : Int) < (n : Int) := by omega
        have i6 : (k : Int) < (n : Int) := by omega
        obtain ⟨x, hx⟩ : ∃ x, xs[k]? = some x := ⟨_, List.getElem?_eq_getElem (by have := HN.out; omega)⟩
        obtain ⟨y, hy⟩ : ∃ y, xs[k + 1]? = some y := ⟨_, List.getElem?_eq_getElem (by have := HN.out; omega)⟩
        have hsn := compG_snoc (xs.take (k + 1)) y
        rw [take_last hx, ← take_snoc hy, HC.out] at hsn
        have hown := ownsB_frm H.out HF.out (by simp)
        have cx := cells6 hown hx
        have cy := cells6 hown hy
        have hcall := eqM_any y x wr.drew
        unfold enc6 at hcall cx cy
        obtain ⟨k1, hk1⟩ : ∃ k1, k1 = k + 1 := ⟨_, rfl⟩
        have HK1 := Lib.hid hk1
        rw [← hk1] at i4 i5 hlt cy hsn hk ⊢
        rw [← hk1] at HC i3
        have HW : Hid (wr.cell? ⟨g, k1 * 6, none⟩ = some (.int .i64 y.1) ∧ wr.cell? ⟨g, k1 * 6 + 1, none⟩ = some (.int .i64 y.2.1) ∧ wr.cell? ⟨g, k1 * 6 + 2, none⟩ = some (.int .i64 y.2.2.1) ∧ wr.cell? ⟨g, k1 * 6 + 3, none⟩ = some (.int .i64 y.2.2.2.1) ∧ wr.cell? ⟨g, k1 * 6 + 4, none⟩ = some (.int .i64 y.2.2.2.2.1) ∧ wr.cell? ⟨g, k1 * 6 + 5, none⟩ = some (.int .i64 y.2.2.2.2.2) ∧ wr.cell? ⟨g, k * 6, none⟩ = some (.int .i64 x.1) ∧ wr.cell? ⟨g, k * 6 + 1, none⟩ = some (.int .i64 x.2.1) ∧ wr.cell? ⟨g, k * 6 + 2, none⟩ = some (.int .i64 x.2.2.1) ∧ wr.cell? ⟨g, k * 6 + 3, none⟩ = some (.int .i64 x.2.2.2.1) ∧ wr.cell? ⟨g, k * 6 + 4, none⟩ = some (.int .i64 x.2.2.2.2.1) ∧ wr.cell? ⟨g, k * 6 + 5, none⟩ = some (.int .i64 x.2.2.2.2.2)) := Lib.hid ⟨cy 0 _ (by omega) rfl, cy 1 _ (by omega) rfl, cy 2 _ (by omega) rfl, cy 3 _ (by omega) rfl, cy 4 _ (by omega) rfl, cy 5 _ (by omega) rfl, cx 0 _ (by omega) rfl, cx 1 _ (by omega) rfl, cx 2 _ (by omega) rfl, cx 3 _ (by omega) rfl, cx 4 _ (by omega) rfl, cx 5 _ (by omega) rfl⟩
        have KEEP : Hid (∀ w', Frm [] wr w' → w'.cell? ⟨g, k1 * 6, none⟩ = some (.int .i64 y.1) ∧ w'.cell? ⟨g, k1 * 6 + 1, none⟩ = some (.int .i64 y.2.1) ∧ w'.cell? ⟨g, k1 * 6 + 2, none⟩ = some (.int .i64 y.2.2.1) ∧ w'.cell? ⟨g, k1 * 6 + 3, none⟩ = some (.int .i64 y.2.2.2.1) ∧ w'.cell? ⟨g, k1 * 6 + 4, none⟩ = some (.int .i64 y.2.2.2.2.1) ∧ w'.cell? ⟨g, k1 * 6 + 5, none⟩ = some (.int .i64 y.2.2.2.2.2) ∧ w'.cell? ⟨g, k * 6, none⟩ = some (.int .i64 x.1) ∧ w'.cell? ⟨g, k * 6 + 1, none⟩ = some (.int .i64 x.2.1) ∧ w'.cell? ⟨g, k * 6 + 2, none⟩ = some (.int .i64 x.2.2.1) ∧ w'.cell? ⟨g, k * 6 + 3, none⟩ = some (.int .i64 x.2.2.2.1) ∧ w'.cell? ⟨g, k * 6 + 4, none⟩ = some (.int .i64 x.2.2.2.2.1) ∧ w'.cell? ⟨g, k * 6 + 5, none⟩ = some (.int .i64 x.2.2.2.2.2)) := Lib.hid fun w' hf => by
          obtain ⟨h0, h1, h2, h3, h4, h5, h6, h7, h8, h9, h10, h11⟩ := HW.out
          exact ⟨hf.cell h0 (by simp), hf.cell h1 (by simp), hf.cell h2 (by simp), hf.cell h3 (by simp), hf.cell h4 (by simp), hf.cell h5 (by simp), hf.cell h6 (by simp), hf.cell h7 (by simp), hf.cell h8 (by simp), hf.cell h9 (by simp), hf.cell h10 (by simp), hf.cell h11 (by simp)⟩
        have HX := Lib.hid hx
        have HY : Hid (xs[k1]? = some y) := Lib.hid (by rw [hk1]; exact hy)
        clear hown cx cy HW hx hy hk1
        by_cases hxy : y = x
        · rw [decide_eq_true hxy] at hcall
          rw [if_pos (by rw [hxy])] at hsn
          have HS := Lib.hid hsn
          have HCALL := Lib.hid hcall
          clear hsn hcall hxy
          go_wp2_with fail
          go_region_held3 (fun w' => w'.cell? ⟨g, k1 * 6, none⟩ = some (.int .i64 y.1) ∧ w'.cell? ⟨g, k1 * 6 + 1, none⟩ = some (.int .i64 y.2.1) ∧ w'.cell? ⟨g, k1 * 6 + 2, none⟩ = some (.int .i64 y.2.2.1) ∧ w'.cell? ⟨g, k1 * 6 + 3, none⟩ = some (.int .i64 y.2.2.2.1) ∧ w'.cell? ⟨g, k1 * 6 + 4, none⟩ = some (.int .i64 y.2.2.2.2.1) ∧ w'.cell? ⟨g, k1 * 6 + 5, none⟩ = some (.int .i64 y.2.2.2.2.2) ∧ w'.cell? ⟨g, k * 6, none⟩ = some (.int .i64 x.1) ∧ w'.cell? ⟨g, k * 6 + 1, none⟩ = some (.int .i64 x.2.1) ∧ w'.cell? ⟨g, k * 6 + 2, none⟩ = some (.int .i64 x.2.2.1) ∧ w'.cell? ⟨g, k * 6 + 3, none⟩ = some (.int .i64 x.2.2.2.1) ∧ w'.cell? ⟨g, k * 6 + 4, none⟩ = some (.int .i64 x.2.2.2.2.1) ∧ w'.cell? ⟨g, k * 6 + 5, none⟩ = some (.int .i64 x.2.2.2.2.2))
            (first | exact KEEP.out _ (Frm.refl [] wr).drew | exact KEEP.out _ hy5)
            (first | (go_at_fn 35; refine HCALL.out.mono ?_; rintro e5 w5 ⟨rfl, hf5⟩; have hy5 := (Frm.refl [] wr).drew.trans hf5 (by simp)))
          have HF5 := Lib.hid (HF.out.trans hy5 (by simp))
          have i7 : (k1 : Int) ≤ (cap : Int) := by omega
          have i8 : IntKind.i64.wrap ((n : Int) - (k1 : Int)) = ((n - k1 : Nat) : Int) := by rw [IntWalk.i64_in _ (by omega)]; omega
          clear hy5 hf5
          have i9 : (0 : Int) ≤ (k1 : Int) := by omega
          go_wp2_with fail
          obtain ⟨nk, hnk⟩ : ∃ nk, n = k1 + nk := ⟨n - k1, by omega⟩
          have HNK := Lib.hid hnk
          have en : n - k1 = nk := by omega
          rw [en]
          have HS0 : Hid (xs.take k1 = compG (xs.take (k1 + 1))) := Lib.hid (by rw [HS.out])
          have hnk1 : 1 ≤ nk := by omega
          clear en hnk i3 i4 i5 i6 i2 hlt hk HX HY KEEP HCALL i8 HK1 HC HF HS
          go_loopg [5, 7] (n - (k1 + 1)) (fun q t5 t7 wr => ∃ (l kk : Nat) (cur : List M6), q = n - (k1 + l + 1) ∧ l + 1 ≤ nk ∧ k1 ≤ kk ∧ kk ≤ k1 + l ∧ t5 = .int .i64 kk ∧ t7 = .int .i64 ((l + 1 : Nat) : Int) ∧ Cpt w wr B g n cap xs kk (k1 + l + 1) cur)
          case atStart =>
            exact ⟨0, k1, xs, rfl, by omega, by omega, by omega, rfl, rfl, HN.out.symm, HS0.out, fun _ _ => rfl, ownsB_frm H.out HF5.out (by simp), HF5.out.mono (by simp)⟩
          case round =>
            obtain ⟨l, kk, cur, rfl, hl, hk1k, hkl, rfl, rfl, hcl, hct, hcx, hco, hcf⟩ := hrel
            have HCL := Lib.hid hcl
            have HCT := Lib.hid hct
            have HCX := Lib.hid hcx
            have HCO := Lib.hid hco
            have HCF := Lib.hid hcf
            have i4 : (0 : Int) ≤ ((l + 1 : Nat) : Int) := by omega
            have i3 : IntKind.i64.wrap (((l + 1 : Nat) : Int) - 1) = (l : Int) := by rw [IntWalk.i64_in _ (by have := HNK.out; omega)]; omega
            have i2 : (0 : Int) ≤ (l : Int) := by omega
            have i10 : (0 : Int) ≤ (kk : Int) := by omega
            have i11 : (kk : Int) < (n : Int) := by have := HNK.out; omega
            clear hcl hct hcx hco hcf
            by_cases hlt : l + 1 < nk
            · have i5 : ((l + 1 : Nat) : Int) < (nk : Int) := by omega
              have i6 : (l : Int) < (nk : Int) := by omega
              obtain ⟨x, hx⟩ : ∃ x, xs[k1 + l]? = some x := ⟨_, List.getElem?_eq_getElem (by have := HN.out; have := HNK.out; omega)⟩
              obtain ⟨y, hy⟩ : ∃ y, xs[k1 + l + 1]? = some y := ⟨_, List.getElem?_eq_getElem (by have := HN.out; have := HNK.out; omega)⟩
              have hsn := compG_snoc (xs.take (k1 + l + 1)) y
              rw [take_last hx, ← take_snoc hy, ← HCT.out] at hsn
              have cx := cells6 HCO.out (show cur[k1 + l]? = some x by rw [HCX.out _ (by omega)]; exact hx)
              have cy := cells6 HCO.out (show cur[k1 + (l + 1)]? = some y by rw [HCX.out _ (by omega)]; exact hy)
              rw [Nat.add_mul] at cx cy
              have hcall := eqM_any y x wr.drew
              unfold enc6 at hcall cx cy
              obtain ⟨l1, hl1⟩ : ∃ l1, l1 = l + 1 := ⟨_, rfl⟩
              have HL1 := Lib.hid hl1
              rw [← hl1] at i4 i5 hlt cy hl i3 ⊢
              have i12 : (l1 : Int) ≤ 10000000 := by have := HNK.out; omega
              have HW : Hid (wr.cell? ⟨g, k1 * 6 + l1 * 6, none⟩ = some (.int .i64 y.1) ∧ wr.cell? ⟨g, k1 * 6 + l1 * 6 + 1, none⟩ = some (.int .i64 y.2.1) ∧ wr.cell? ⟨g, k1 * 6 + l1 * 6 + 2, none⟩ = some (.int .i64 y.2.2.1) ∧ wr.cell? ⟨g, k1 * 6 + l1 * 6 + 3, none⟩ = some (.int .i64 y.2.2.2.1) ∧ wr.cell? ⟨g, k1 * 6 + l1 * 6 + 4, none⟩ = some (.int .i64 y.2.2.2.2.1) ∧ wr.cell? ⟨g, k1 * 6 + l1 * 6 + 5, none⟩ = some (.int .i64 y.2.2.2.2.2) ∧ wr.cell? ⟨g, k1 * 6 + l * 6, none⟩ = some (.int .i64 x.1) ∧ wr.cell? ⟨g, k1 * 6 + l * 6 + 1, none⟩ = some (.int .i64 x.2.1) ∧ wr.cell? ⟨g, k1 * 6 + l * 6 + 2, none⟩ = some (.int .i64 x.2.2.1) ∧ wr.cell? ⟨g, k1 * 6 + l * 6 + 3, none⟩ = some (.int .i64 x.2.2.2.1) ∧ wr.cell? ⟨g, k1 * 6 + l * 6 + 4, none⟩ = some (.int .i64 x.2.2.2.2.1) ∧ wr.cell? ⟨g, k1 * 6 + l * 6 + 5, none⟩ = some (.int .i64 x.2.2.2.2.2)) := Lib.hid ⟨cy 0 _ (by omega) rfl, cy 1 _ (by omega) rfl, cy 2 _ (by omega) rfl, cy 3 _ (by omega) rfl, cy 4 _ (by omega) rfl, cy 5 _ (by omega) rfl, cx 0 _ (by omega) rfl, cx 1 _ (by omega) rfl, cx 2 _ (by omega) rfl, cx 3 _ (by omega) rfl, cx 4 _ (by omega) rfl, cx 5 _ (by omega) rfl⟩
              have KEEP : Hid (∀ w', Frm [] wr w' → w'.cell? ⟨g, k1 * 6 + l1 * 6, none⟩ = some (.int .i64 y.1) ∧ w'.cell? ⟨g, k1 * 6 + l1 * 6 + 1, none⟩ = some (.int .i64 y.2.1) ∧ w'.cell? ⟨g, k1 * 6 + l1 * 6 + 2, none⟩ = some (.int .i64 y.2.2.1) ∧ w'.cell? ⟨g, k1 * 6 + l1 * 6 + 3, none⟩ = some (.int .i64 y.2.2.2.1) ∧ w'.cell? ⟨g, k1 * 6 + l1 * 6 + 4, none⟩ = some (.int .i64 y.2.2.2.2.1) ∧ w'.cell? ⟨g, k1 * 6 + l1 * 6 + 5, none⟩ = some (.int .i64 y.2.2.2.2.2) ∧ w'.cell? ⟨g, k1 * 6 + l * 6, none⟩ = some (.int .i64 x.1) ∧ w'.cell? ⟨g, k1 * 6 + l * 6 + 1, none⟩ = some (.int .i64 x.2.1) ∧ w'.cell? ⟨g, k1 * 6 + l * 6 + 2, none⟩ = some (.int .i64 x.2.2.1) ∧ w'.cell? ⟨g, k1 * 6 + l * 6 + 3, none⟩ = some (.int .i64 x.2.2.2.1) ∧ w'.cell? ⟨g, k1 * 6 + l * 6 + 4, none⟩ = some (.int .i64 x.2.2.2.2.1) ∧ w'.cell? ⟨g, k1 * 6 + l * 6 + 5, none⟩ = some (.int .i64 x.2.2.2.2.2)) := Lib.hid fun w' hf => by
                obtain ⟨h0, h1, h2, h3, h4, h5, h6, h7, h8, h9, h10, h11⟩ := HW.out
                exact ⟨hf.cell h0 (by simp), hf.cell h1 (by simp), hf.cell h2 (by simp), hf.cell h3 (by simp), hf.cell h4 (by simp), hf.cell h5 (by simp), hf.cell h6 (by simp), hf.cell h7 (by simp), hf.cell h8 (by simp), hf.cell h9 (by simp), hf.cell h10 (by simp), hf.cell h11 (by simp)⟩
              clear cx cy HW hx hl1
              by_cases hxy : y = x
              · rw [decide_eq_true hxy] at hcall
                rw [if_pos (by rw [hxy])] at hsn
                have HS := Lib.hid hsn
                have HCALL := Lib.hid hcall
                clear hsn hcall hxy hy
                go_wp2_with fail
                go_region_held3 (fun w' => w'.cell? ⟨g, k1 * 6 + l1 * 6, none⟩ = some (.int .i64 y.1) ∧ w'.cell? ⟨g, k1 * 6 + l1 * 6 + 1, none⟩ = some (.int .i64 y.2.1) ∧ w'.cell? ⟨g, k1 * 6 + l1 * 6 + 2, none⟩ = some (.int .i64 y.2.2.1) ∧ w'.cell? ⟨g, k1 * 6 + l1 * 6 + 3, none⟩ = some (.int .i64 y.2.2.2.1) ∧ w'.cell? ⟨g, k1 * 6 + l1 * 6 + 4, none⟩ = some (.int .i64 y.2.2.2.2.1) ∧ w'.cell? ⟨g, k1 * 6 + l1 * 6 + 5, none⟩ = some (.int .i64 y.2.2.2.2.2) ∧ w'.cell? ⟨g, k1 * 6 + l * 6, none⟩ = some (.int .i64 x.1) ∧ w'.cell? ⟨g, k1 * 6 + l * 6 + 1, none⟩ = some (.int .i64 x.2.1) ∧ w'.cell? ⟨g, k1 * 6 + l * 6 + 2, none⟩ = some (.int .i64 x.2.2.1) ∧ w'.cell? ⟨g, k1 * 6 + l * 6 + 3, none⟩ = some (.int .i64 x.2.2.2.1) ∧ w'.cell? ⟨g, k1 * 6 + l * 6 + 4, none⟩ = some (.int .i64 x.2.2.2.2.1) ∧ w'.cell? ⟨g, k1 * 6 + l * 6 + 5, none⟩ = some (.int .i64 x.2.2.2.2.2))
                  (first | exact KEEP.out _ (Frm.refl [] wr).drew | exact KEEP.out _ hy5)
                  (first | (go_at_fn 35; refine HCALL.out.mono ?_; rintro e5 w5 ⟨rfl, hf5⟩; have hy5 := (Frm.refl [] wr).drew.trans hf5 (by simp)))
                go_wp2_with fail
                go_roundg (n - (k1 + l1 + 1))
                case rel =>
                  refine ⟨l1, kk, cur, rfl, by omega, by omega, by have := HL1.out; omega, rfl, by go_num, HCL.out, ?_, fun i hi => HCX.out i (by have := HL1.out; omega), ownsB_frm HCO.out hy5 (by simp), HCF.out.trans hy5 (by simp)⟩
                  have e9 : k1 + l1 + 1 = k1 + l + 1 + 1 := by have := HL1.out; omega
                  rw [e9, HS.out]
                case measure => have := HL1.out; have := HNK.out; omega
              · rw [decide_eq_false hxy] at hcall
                rw [if_neg (fun h9 => hxy (by cases h9; rfl))] at hsn
                have HS := Lib.hid hsn
                have HY := Lib.hid hy
                have HCALL := Lib.hid hcall
                clear hsn hcall hxy hy
                go_wp2_with fail
                go_region_held3 (fun w' => w'.cell? ⟨g, k1 * 6 + l1 * 6, none⟩ = some (.int .i64 y.1) ∧ w'.cell? ⟨g, k1 * 6 + l1 * 6 + 1, none⟩ = some (.int .i64 y.2.1) ∧ w'.cell? ⟨g, k1 * 6 + l1 * 6 + 2, none⟩ = some (.int .i64 y.2.2.1) ∧ w'.cell? ⟨g, k1 * 6 + l1 * 6 + 3, none⟩ = some (.int .i64 y.2.2.2.1) ∧ w'.cell? ⟨g, k1 * 6 + l1 * 6 + 4, none⟩ = some (.int .i64 y.2.2.2.2.1) ∧ w'.cell? ⟨g, k1 * 6 + l1 * 6 + 5, none⟩ = some (.int .i64 y.2.2.2.2.2) ∧ w'.cell? ⟨g, k1 * 6 + l * 6, none⟩ = some (.int .i64 x.1) ∧ w'.cell? ⟨g, k1 * 6 + l * 6 + 1, none⟩ = some (.int .i64 x.2.1) ∧ w'.cell? ⟨g, k1 * 6 + l * 6 + 2, none⟩ = some (.int .i64 x.2.2.1) ∧ w'.cell? ⟨g, k1 * 6 + l * 6 + 3, none⟩ = some (.int .i64 x.2.2.2.1) ∧ w'.cell? ⟨g, k1 * 6 + l * 6 + 4, none⟩ = some (.int .i64 x.2.2.2.2.1) ∧ w'.cell? ⟨g, k1 * 6 + l * 6 + 5, none⟩ = some (.int .i64 x.2.2.2.2.2))
                  (first | exact KEEP.out _ (Frm.refl [] wr).drew | exact KEEP.out _ hy5)
                  (first | (go_at_fn 35; refine HCALL.out.mono ?_; rintro e5 w5 ⟨rfl, hf5⟩; have hy5 := (Frm.refl [] wr).drew.trans hf5 (by simp)))
                obtain ⟨v0, v1, v2, v3, v4, v5, v6, v7, v8, v9, v10, v11⟩ := KEEP.out _ hy5
                have O5 := ownsB_frm HCO.out hy5 (by simp)
                obtain ⟨g9, cap9, e9, _, _, _, hrow⟩ := ownsB_some O5 (by have := HNK.out; omega)
                cases e9
                obtain ⟨z, hz⟩ : ∃ z, cur[kk]? = some z := ⟨_, List.getElem?_eq_getElem (by have := HCL.out; have := HNK.out; omega)⟩
                have cz := cells6 O5 hz
                have z0 := hrow.frozen (kk * 6)
                have z1 := hrow.frozen (kk * 6 + 1)
                have z2 := hrow.frozen (kk * 6 + 2)
                have z3 := hrow.frozen (kk * 6 + 3)
                have z4 := hrow.frozen (kk * 6 + 4)
                have z5 := hrow.frozen (kk * 6 + 5)
                unfold enc6 at cz
                have b0 := cz 0 _ (by omega) rfl
                have b1 := cz 1 _ (by omega) rfl
                have b2 := cz 2 _ (by omega) rfl
                have b3 := cz 3 _ (by omega) rfl
                have b4 := cz 4 _ (by omega) rfl
                have b5 := cz 5 _ (by omega) rfl
                rw [Nat.add_zero] at b0
                have HY5 := Lib.hid hy5
                have HO5 := Lib.hid O5
                clear cz hz hrow O5 hy5 hf5
                go_wp2_with fail
                have O6 := Lib.hid (owns_setCells (v := .slice (some ⟨g, 0, none⟩) n cap) rfl (enc6 y) (kk * 6) _ _ HO5.out)
                have F6 := Lib.hid ((HCF.out.trans HY5.out (by simp)).trans (frm_setCells (g := g) (enc6 y) (kk * 6) w5) (fun x hx => .inl hx))
                go_roundg (n - (k1 + l1 + 1))
                case rel =>
                  have hkc : kk < cur.length := by have := HCL.out; have := HNK.out; omega
                  refine ⟨l1, kk + 1, cur.set kk y, rfl, by omega, by omega, by have := HL1.out; omega, by go_num, by go_num, by rw [List.length_set]; exact HCL.out, ?_, fun i hi => ?_, ?_, F6.out⟩
                  · have e9 : k1 + l1 + 1 = k1 + l + 1 + 1 := by have := HL1.out; omega
                    rw [e9, HS.out, take_set_snoc hkc]
                  · rw [List.getElem?_set_ne (by have := HL1.out; omega)]
                    exact HCX.out i (by have := HL1.out; omega)
                  · rw [set6 cur kk y hkc]
                    exact O6.out
                case measure => have := HL1.out; have := HNK.out; omega
            · have i5 : ¬ ((l + 1 : Nat) : Int) < (nk : Int) := by omega
              have hp : k1 + l + 1 = n := by have := HNK.out; omega
              have HP : Hid (cur.take kk = compG xs) := Lib.hid (by
                rw [HCT.out, hp, List.take_of_length_le (by have := HN.out; omega)])
              have hlen : (compG xs).length = kk := by
                rw [← HP.out, List.length_take]
                have := HCL.out
                have := HNK.out
                omega
              have HLEN := Lib.hid hlen
              obtain ⟨g9, cap9, e9, _, _, _, hrow⟩ := ownsB_some HCO.out (by omega)
              cases e9
              have hc9 := HCO.out.1
              have i13 : (kk : Int) ≤ (cap : Int) := by omega
              have i14 : (kk : Int) ≤ (n : Int) := by omega
              have hcl := clear6 70 74 wr g (kk * 6) (n - kk) (cap - kk) Tryz.underlying70 Tryz.zeroValue74 (by omega) (fun j hj => by
                have h9 : kk * 6 + j < (cur.flatMap enc6).length := by rw [hc9]; omega
                rw [hrow.cell (List.getElem?_eq_getElem h9)]
                rfl) (fun j _ => hrow.frozen _)
              obtain ⟨zs, hzs⟩ : ∃ zs, zs = clearL (n - kk) := ⟨_, rfl⟩
              rw [← hzs] at hcl
              have HFR := Lib.hid (frm_setCells (g := g) zs (kk * 6) wr)
              have hown := owns_setCells (v := .slice (some ⟨g, 0, none⟩) n cap) rfl zs (kk * 6) wr _ HCO.out
              have hcut := owns_cut hown (show kk ≤ n by omega) (by omega)
              rw [setL_take _ _ _ _ (Nat.le_refl _)] at hcut
              have htk : (cur.flatMap enc6).take (kk * 6) = (compG xs).flatMap enc6 := by
                rw [← HP.out, flatMap_take cur kk]
              rw [htk] at hcut
              have HCUT := Lib.hid hcut
              clear hrow hc9 hown hcut htk hzs hlen hp
              go_wp2_with fail
              go_ret
              refine ⟨?_, ?_, (HCF.out.trans HFR.out (fun x hx => .inl hx)).mono (by simp [Value.ownBlock])⟩
              · rw [HLEN.out]; rfl
              · rw [HLEN.out]; exact HCUT.out
        · rw [decide_eq_false hxy] at hcall
          rw [if_neg (fun h9 => hxy (by cases h9; rfl))] at hsn
          have HS : Hid (compG (xs.take (k1 + 1)) = xs.take (k1 + 1)) := Lib.hid (by
            have hy' : xs[k1]? = some y := HY.out
            rw [hsn, take_snoc hy'])
          have HCALL := Lib.hid hcall
          clear hsn hcall hxy
          go_wp2_with fail
          go_region_held3 (fun w' => w'.cell? ⟨g, k1 * 6, none⟩ = some (.int .i64 y.1) ∧ w'.cell? ⟨g, k1 * 6 + 1, none⟩ = some (.int .i64 y.2.1) ∧ w'.cell? ⟨g, k1 * 6 + 2, none⟩ = some (.int .i64 y.2.2.1) ∧ w'.cell? ⟨g, k1 * 6 + 3, none⟩ = some (.int .i64 y.2.2.2.1) ∧ w'.cell? ⟨g, k1 * 6 + 4, none⟩ = some (.int .i64 y.2.2.2.2.1) ∧ w'.cell? ⟨g, k1 * 6 + 5, none⟩ = some (.int .i64 y.2.2.2.2.2) ∧ w'.cell? ⟨g, k * 6, none⟩ = some (.int .i64 x.1) ∧ w'.cell? ⟨g, k * 6 + 1, none⟩ = some (.int .i64 x.2.1) ∧ w'.cell? ⟨g, k * 6 + 2, none⟩ = some (.int .i64 x.2.2.1) ∧ w'.cell? ⟨g, k * 6 + 3, none⟩ = some (.int .i64 x.2.2.2.1) ∧ w'.cell? ⟨g, k * 6 + 4, none⟩ = some (.int .i64 x.2.2.2.2.1) ∧ w'.cell? ⟨g, k * 6 + 5, none⟩ = some (.int .i64 x.2.2.2.2.2))
            (first | exact KEEP.out _ (Frm.refl [] wr).drew | exact KEEP.out _ hy5)
            (first | (go_at_fn 35; refine HCALL.out.mono ?_; rintro e5 w5 ⟨rfl, hf5⟩; have hy5 := (Frm.refl [] wr).drew.trans hf5 (by simp)))
          go_wp2_with fail
          go_roundg (n - (k1 + 1))
          case rel => exact ⟨k1, rfl, by omega, by go_num, HS.out, HF.out.trans hy5 (by simp)⟩
          case measure => have := HK1.out; omega
      · have i5 : ¬ ((k + 1 : Nat) : Int) < (n : Int) := by omega
        have HX : Hid (compG xs = xs) := Lib.hid (by
          have := HC.out
          rw [List.take_of_length_le (by have := HN.out; omega)] at this
          exact this)
        go_wp2_with fail
        go_ret
        refine ⟨?_, ?_, HF.out.mono (by simp)⟩
        · rw [HX.out, ← HN.out]; rfl
        · rw [HX.out, ← HN.out]; exact ownsB_frm H.out HF.out (by simp)

end Go.Proofs.YtdknbgejhhoaiaaGreat.Ind

/- Instance: what its loops carry; plain facts on places and arcs with four registers. -/
namespace Go.Proofs.YtdknbgejhhoaiaaGreat.Ind
open Go.Shelf Go.RowKit Go.Lib Go.Sort

theorem toP_inj {x y : P5} (h : toP x = toP y) : x = y := by
  obtain ⟨s, a, b, c, d⟩ := x
  obtain ⟨s', a', b', c', d'⟩ := y
  simp [toP] at h
  simp [h]
theorem ex5 : ∀ (l : List Pl), (∀ p ∈ l, p.2.length = 4) → ∃ l5 : List P5, l5.map toP = l
  | [], _ => ⟨[], rfl⟩
  | p :: r, h => by
    obtain ⟨r5, hr⟩ := ex5 r (fun q hq => h q (List.mem_cons_of_mem _ hq))
    obtain ⟨a, b, c, d, e⟩ := four_ex (h p List.mem_cons_self)
    exact ⟨(p.1, a, b, c, d) :: r5, by rw [List.map_cons, hr, toP, ← e]⟩
theorem ex6 : ∀ (l : List Mv), (∀ x ∈ l, x.2.2.length = 4) → ∃ l6 : List M6, l6.map toM = l
  | [], _ => ⟨[], rfl⟩
  | p :: r, h => by
    obtain ⟨r5, hr⟩ := ex6 r (fun q hq => h q (List.mem_cons_of_mem _ hq))
    obtain ⟨a, b, c, d, e⟩ := four_ex (h p List.mem_cons_self)
    exact ⟨(p.1, p.2.1, a, b, c, d) :: r5, by rw [List.map_cons, hr, toM, toP, ← e]⟩
theorem mvsC_map (l : List M6) : mvsC (l.map toM) = l.flatMap enc6 := by
  rw [mvsC, List.flatMap_map]
  rfl
theorem allM_four {m : RM} {n : Nat} {p : Pl} (hv : validM m = true) (hp : GoodP m p) (hn : n ≤ 12) : ∀ x ∈ allM m n p, x.2.2.length = 4 := by
  intro x hx
  rw [allM, List.mem_flatMap] at hx
  obtain ⟨a, ha, hx⟩ := hx
  exact (moves_good (arcs_ok hv ha) hp hn hx).1
theorem compG_map (l : List M6) : (compG l).map toM = compG (l.map toM) := by
  match l with
  | [] => rfl
  | [a] => rfl
  | a :: b :: r =>
    have ih := compG_map (b :: r)
    rw [List.map_cons] at ih
    rw [compG, List.map_cons, List.map_cons, compG]
    by_cases h : a = b
    · rw [if_pos h, if_pos (by rw [h]), ih]
    · rw [if_neg h, if_neg (fun e => h (toM_inj e)), List.map_cons, ih]
/-- Sorting and striking gives the edges. -/
theorem edges_made {m : RM} {n : Nat} {p : Pl} {l6 : List M6} (h : l6.map toM = allM m n p) : (compG (l6.mergeSort fun x y => !ltOf cmp6 y x)).map toM = edgesB m n p := by
  rw [compG_map]
  refine comp_set sto_M (fun x => ?_) ?_
  · rw [← h]
    constructor
    · intro hx
      obtain ⟨y, hy, rfl⟩ := List.mem_map.1 hx
      exact List.mem_map.2 ⟨y, (List.mergeSort_perm _ _).mem_iff.1 hy, rfl⟩
    · intro hx
      obtain ⟨y, hy, rfl⟩ := List.mem_map.1 hx
      exact List.mem_map.2 ⟨y, (List.mergeSort_perm _ _).mem_iff.2 hy, rfl⟩
  · rw [List.pairwise_map]
    exact (pw_merge sto_6 l6).imp fun {a b} hab => by rw [cmp6_lt] at hab; exact hab
def encP5 (p : P5) : List Value := [.int .i64 p.1, .int .i64 p.2.1, .int .i64 p.2.2.1, .int .i64 p.2.2.2.1, .int .i64 p.2.2.2.2]
theorem infoPl : (Tryz.prog.info? 67).map (fun i => (i.zero, i.size, i.bytes)) = some (some (.agg #[.int .i64 0, .int .i64 0, .int .i64 0, .int .i64 0, .int .i64 0]), 5, 40) := by kernel_rfl
theorem infoAr : (Tryz.prog.info? 55).map (fun i => (i.zero, i.size, i.bytes)) = some (some (.agg #[.int .i64 0, .int .i64 0]), 2, 16) := by kernel_rfl
theorem infoRw : (Tryz.prog.info? 51).map (fun i => (i.zero, i.size, i.bytes)) = some (some (.slice none 0 0), 1, 24) := by kernel_rfl
/-- The numbers of the places. -/
def kvN (l : List P5) : List (P5 × Value) := l.zipIdx.map fun q => (q.1, .int .i64 (q.2 : Int))
theorem kvN_snoc (l : List P5) (p : P5) : kvN (l ++ [p]) = kvN l ++ [(p, .int .i64 (l.length : Int))] := by
  simp [kvN, List.zipIdx_append]
theorem getA_kvN_none {l : List P5} {p : P5} (h : p ∉ l) : getA (kvN l) p = none := by
  rw [getA_none]
  intro q hq
  obtain ⟨⟨x, i⟩, hx, rfl⟩ := List.mem_map.1 hq
  have := List.mem_zipIdx hx
  intro e
  apply h
  rw [← e]
  simp at this
  rw [this.2]
  exact List.getElem_mem _
theorem getA_kvN_some : ∀ {l : List P5} {p : P5}, p ∈ l → ∀ k : Nat, getA ((l.zipIdx k).map fun q => (q.1, Value.int .i64 (q.2 : Int))) p = some (.int .i64 ((l.idxOf p + k : Nat) : Int))
  | [], p, h, k => by cases h
  | a :: r, p, h, k => by
    rw [List.zipIdx_cons, List.map_cons, getA, List.find?_cons]
    by_cases e : a = p
    · subst e
      simp
    · have hd : decide (a = p) = false := decide_eq_false e
      rw [hd]
      have hr : p ∈ r := by
        rcases List.mem_cons.1 h with h | h
        · exact absurd h.symm e
        · exact h
      have ih := getA_kvN_some hr (k + 1)
      rw [getA] at ih
      rw [List.idxOf_cons, show (a == p) = false by simpa using e]
      simp only [cond_false]
      rw [ih]
      congr 3
      omega
theorem idx_map {l : List P5} {p : P5} : (l.map toP).idxOf (toP p) = l.idxOf p := by
  induction l with
  | nil => rfl
  | cons a r ih =>
    rw [List.map_cons, List.idxOf_cons, List.idxOf_cons, ih]
    by_cases e : a = p
    · subst e; simp
    · have h1 : (a == p) = false := by simpa using e
      have h2 : (toP a == toP p) = false := by simpa using fun h => e (toP_inj h)
      rw [h1, h2]
theorem mem_map5 {l : List P5} {p : P5} : toP p ∈ l.map toP ↔ p ∈ l := by
  constructor
  · intro h
    obtain ⟨q, hq, e⟩ := List.mem_map.1 h
    rw [← toP_inj e]; exact hq
  · exact fun h => List.mem_map.2 ⟨p, h, rfl⟩
/-- A place that has a number; a new one. -/
theorem num_old {l : List P5} {p : P5} (h : p ∈ l) : numP (l.map toP) (toP p) = (l.map toP, l.idxOf p) := by
  rw [numP, if_pos (mem_map5.2 h), idx_map]
theorem num_new {l : List P5} {p : P5} (h : p ∉ l) : numP (l.map toP) (toP p) = ((l ++ [p]).map toP, l.length) := by
  rw [numP, if_neg (fun h9 => h (mem_map5.1 h9)), List.map_append, List.length_map]
  rfl
/-- A system's rows, only read. -/
def LtsAt (w : World) (F : List Nat) (v : Value) (rows : List (List Ar)) : Prop :=
  ∃ vs : List Value, RowV w F v rows.length 1 vs ∧ ∀ (i : Nat) (r : List Ar), rows[i]? = some r → ∃ u, vs[i]? = some u ∧ RowV w F u r.length 2 (r.flatMap arE)
theorem LtsAt.step {w w' : World} {F F' fp : List Nat} {v : Value} {rows : List (List Ar)} (h : LtsAt w F v rows) (hf : Frm fp w w') (hn : ∀ k ∈ fp, k ∈ F ∨ w.heap.size ≤ k) (hF : ∀ k ∈ F', k ∈ F ∨ w.heap.size ≤ k) : LtsAt w' F' v rows := by
  obtain ⟨vs, h1, h2⟩ := h
  refine ⟨vs, h1.step hf hn hF, fun i r hr => ?_⟩
  obtain ⟨u, hu, h3⟩ := h2 i r hr
  exact ⟨u, hu, h3.step hf hn hF⟩
/-- A system's rows while they are being gathered: the outer row is the call's own. -/
def LtsOwn (w : World) (B : Nat) (F : List Nat) (v : Value) (rows : List (List Ar)) : Prop :=
  ∃ vs : List Value, w.ownsRow B 51 1 v rows.length vs ∧ (∀ k, v.ownBlock = some k → k ∈ F) ∧ (∀ u ∈ vs, u.oneCell' = true) ∧ ∀ (i : Nat) (r : List Ar), rows[i]? = some r → ∃ u, vs[i]? = some u ∧ RowV w F u r.length 2 (r.flatMap arE)

end Go.Proofs.YtdknbgejhhoaiaaGreat.Ind
