/- Texts S2, U3, R7. -/
import Derived.Test.YtdknbgejhhoaiaaGreatQ20
import Derived.Test.YtdknbgejhhoaiaaGreatQ22
import Derived.Test.YtdknbgejhhoaiaaGreatQ12
import Derived.Test.YtdknbgejhhoaiaaGreatQ19
/- Contract of slices.Compact over rows of arcs. (Printed by wip/tools/s2.py out of KM.) -/
namespace Go.Proofs.YtdknbgejhhoaiaaGreat.Ind
open Go.Shelf Go.RowKit Go.Lib Go.Sort

theorem setA2 (l : List Ar) : ∀ (k : Nat) (x : Ar), k < l.length → (l.set k x).flatMap arE = setL (l.flatMap arE) (k * 2) (arE x) := by
  intro k x hk
  apply List.ext_getElem?
  intro t
  have hs : ∀ (vs xs : List Value) (o : Nat), o + vs.length ≤ xs.length → (setL xs o vs)[t]? = if o ≤ t ∧ t < o + vs.length then vs[t - o]? else xs[t]? := by
    intro vs
    induction vs with
    | nil => intro xs o _; rw [setL, if_neg (by rintro ⟨h1, h2⟩; rw [List.length_nil] at h2; omega)]
    | cons v r ih =>
      intro xs o ho
      rw [List.length_cons] at ho ⊢
      rw [setL, ih _ _ (by rw [List.length_set]; omega), List.getElem?_set]
      by_cases h1 : o = t
      · subst h1
        rw [if_neg (by omega), if_pos rfl, if_pos (by omega), if_pos (by omega), Nat.sub_self]
        rfl
      · by_cases h2 : o + 1 ≤ t ∧ t < o + 1 + r.length
        · rw [if_pos h2, if_pos (by omega), show t - o = (t - (o + 1)) + 1 by omega]
          rfl
        · rw [if_neg h2, if_neg h1, if_neg (by omega)]
  have hlen := flatMap_len (enc := arE) (k := 2) (fun _ => rfl)
  have h62 : (arE x).length = 2 := rfl
  rw [hs _ _ _ (by rw [hlen, h62]; omega), h62]
  by_cases ht : t < l.length * 2
  · have hd : t / 2 < l.length := by omega
    have hm : t % 2 < 2 := Nat.mod_lt _ (by decide)
    have et : t / 2 * 2 + t % 2 = t := by omega
    have h1 := flatMap_get (enc := arE) (k := 2) (fun _ => rfl) (l := l) (List.getElem?_eq_getElem hd) (t % 2) hm
    have hd2 : t / 2 < (l.set k x).length := by rw [List.length_set]; exact hd
    have h2 := flatMap_get (enc := arE) (k := 2) (fun _ => rfl) (l := l.set k x) (List.getElem?_eq_getElem hd2) (t % 2) hm
    rw [et] at h1 h2
    rw [h2, h1, List.getElem_set]
    by_cases hkt : k = t / 2
    · rw [if_pos hkt, if_pos (by omega)]
      congr 1
      omega
    · rw [if_neg hkt, if_neg (by omega)]
  · rw [List.getElem?_eq_none (by rw [hlen, List.length_set]; omega), if_neg (by omega), List.getElem?_eq_none (by rw [hlen]; omega)]
theorem cellsA2 {w : World} {B n cap g : Nat} {l : List Ar} (h : w.ownsRow B 55 2 (.slice (some ⟨g, 0, none⟩) n cap) n (l.flatMap arE)) {i : Nat} {x : Ar} (hx : l[i]? = some x) : ∀ (j : Nat) (u : Value), j < 2 → (arE x)[j]? = some u → w.cell? ⟨g, i * 2 + j, none⟩ = some u := by
  intro j u hj hu
  have hn : 0 < n := by
    have h1 := h.1
    rw [flatMap_len (enc := arE) (k := 2) (fun _ => rfl)] at h1
    have h2 := (List.getElem?_eq_some_iff.1 hx).1
    omega
  obtain ⟨g', cap', e, _, _, _, hr⟩ := ownsB_some h hn
  cases e
  exact hr.cell (by rw [flatMap_get (enc := arE) (k := 2) (fun _ => rfl) hx j hj]; exact hu)
theorem flatMap_takeA (l : List Ar) (k : Nat) : (l.flatMap arE).take (k * 2) = (l.take k).flatMap arE := by
  have h := flatMap_len (enc := arE) (k := 2) (fun _ => rfl)
  by_cases hk : k ≤ l.length
  · have e : l.flatMap arE = (l.take k).flatMap arE ++ (l.drop k).flatMap arE := by rw [← List.flatMap_append, List.take_append_drop]
    rw [e, List.take_left' (by rw [h, List.length_take, Nat.min_eq_left hk])]
  · rw [List.take_of_length_le (by rw [h]; omega), List.take_of_length_le (by omega)]
/-- The zero arcs. -/
def clearA (n : Nat) : List Value := (Builtin.zeroCells (Value.agg #[.int .i64 0, .int .i64 0]).cells n).toList
theorem clearA_len (n : Nat) : (clearA n).length = n * 2 := by
  simp [clearA, Builtin.zeroCells, Value.cells]
theorem clearA_one (n : Nat) : ∀ v ∈ clearA n, v.oneCell' = true := by
  intro v hv
  simp only [clearA, Builtin.zeroCells, Value.cells] at hv
  simp at hv
  obtain ⟨i, _, rfl⟩ := hv
  have hm : i % 2 < 2 := Nat.mod_lt _ (by decide)
  have h6 : i % 2 = 0 ∨ i % 2 = 1 := by omega
  rcases h6 with h | h <;> rw [h] <;> rfl
theorem clear2 (t e : TypeId) (w : World) (b o n c : Nat) (ht : Tryz.prog.underlying t = some (.slice e)) (hv : ∀ w, (zeroValue e).run Tryz.prog w = .ok (.agg #[.int .i64 0, .int .i64 0]) w) (hn : 0 < n)
    (hc : ∀ j, j < n * 2 → (w.cell? ⟨b, o + j, none⟩).isSome = true) (hf : ∀ j, j < n * 2 → w.frozen? ⟨b, o + j, none⟩ = false) (ty : TypeId) :
    (Builtin.clear_ #[t] ty #[.slice (some ⟨b, o, none⟩) n c]).run Tryz.prog w = .ok (.tuple #[]) (w.setCells b o (clearA n)) := by
  have hst := run_storeCells_cells (P := Tryz.prog) b o (clearA n) 0 w (by rw [clearA_len]; simpa using hc) (by rw [clearA_len]; simpa using hf) (clearA_one n)
  simp only [Nat.add_zero] at hst
  obtain ⟨m, rfl⟩ : ∃ m, n = m + 1 := ⟨n - 1, by omega⟩
  have hcl : (Builtin.zeroCells (Value.agg #[.int .i64 0, .int .i64 0]).cells (m + 1)).toList = clearA (m + 1) := rfl
  simp only [Builtin.clear_]
  simp [run_underlying ht, hv, hcl, hst]
/-- What holds inside the second loop. -/
def CptA (w wr : World) (B g n cap : Nat) (xs : List Ar) (k p : Nat) (cur : List Ar) : Prop :=
  cur.length = n ∧ cur.take k = compG (xs.take p) ∧ (∀ i, p ≤ i + 1 → cur[i]? = xs[i]?) ∧ wr.ownsRow B 55 2 (.slice (some ⟨g, 0, none⟩) n cap) n (cur.flatMap arE) ∧ Frm [g] w wr
/-- What CompactFunc hands back. -/
def CptEndA (w : World) (B : Nat) (a : Option Addr) (cap : Nat) (xs : List Ar) (e : Ending) (w' : World) : Prop :=
  e = .returned (.slice a (compG xs).length cap) ∧ w'.ownsRow B 55 2 (.slice a (compG xs).length cap) (compG xs).length ((compG xs).flatMap arE) ∧ Frm (Value.slice a xs.length cap).ownBlock.toList w w'

set_option linter.unusedSimpArgs false in
set_option maxRecDepth 100000 in
set_option maxHeartbeats 8000000 in
theorem compactA_any (B : Nat) (a : Option Addr) (cap : Nat) (xs : List Ar) (w : World) (h : w.ownsRow B 55 2 (.slice a xs.length cap) xs.length (xs.flatMap arE)) (hn : xs.length ≤ 10000000) :
    Calls Tryz.prog 52 #[.slice a xs.length cap] w (CptEndA w B a cap xs) := by
  have hgd := guardAr
  by_cases h2 : xs.length < 2
  · have HC : Hid (compG xs = xs) := Lib.hid (by
      match xs, h2 with
      | [], _ => rfl
      | [_], _ => rfl)
    have H := Lib.hid h
    have i1 : (xs.length : Int) < 2 := by omega
    clear h h2
    go_enter Tryz.func52, Tryz.ntmps52
    go_wp2_with fail
    go_ret
    refine ⟨?_, ?_, Frm.refl _ _⟩
    · rw [HC.out]; rfl
    · rw [HC.out]; exact H.out
  · have i1 : ¬ (xs.length : Int) < 2 := by omega
    obtain ⟨g, cp, e0, hBg, hcap, hmax, hrow⟩ := ownsB_some h (by omega)
    obtain ⟨rfl, rfl⟩ : a = some ⟨g, 0, none⟩ ∧ cap = cp := by simpa using e0
    obtain ⟨n, hnn⟩ : ∃ n, n = xs.length := ⟨_, rfl⟩
    rw [← hnn] at h hn h2 i1 hcap ⊢
    have HN := Lib.hid hnn
    have H := Lib.hid h
    have hmx : (cap : Int) ≤ 9223372036854775807 := by unfold maxLen at hmax; omega
    have hcn : (n : Int) ≤ (cap : Int) := by omega
    clear h e0 hmax hrow hnn hcap
    have h2' : 2 ≤ n := by omega
    clear h2
    go_enter Tryz.func52, Tryz.ntmps52
    go_wp2_with fail
    go_loopg [3] (n - 1) (fun q i wr => ∃ (k : Nat), q = n - (k + 1) ∧ k + 1 ≤ n ∧ i = .int .i64 ((k + 1 : Nat) : Int) ∧ compG (xs.take (k + 1)) = xs.take (k + 1) ∧ Frm [] w wr)
    case atStart =>
      refine ⟨0, rfl, by omega, rfl, ?_, Frm.refl _ _⟩
      match xs with
      | [] => rfl
      | _ :: _ => rfl
    case round =>
      obtain ⟨k, rfl, hk, rfl, hc, hF⟩ := hrel
      have HF := Lib.hid hF
      have HC := Lib.hid hc
      have i4 : (0 : Int) ≤ ((k + 1 : Nat) : Int) := by omega
      have i3 : IntKind.i64.wrap (((k + 1 : Nat) : Int) - 1) = (k : Int) := by rw [IntWalk.i64_in _ (by omega)]; omega
      have i2 : (0 : Int) ≤ (k : Int) := by omega
      clear hF hc
      by_cases hlt : k + 1 < n
      · have i5 : ((k + 1 : Nat) : Int) < (n : Int) := by omega
        have i6 : (k : Int) < (n : Int) := by omega
        obtain ⟨x, hx⟩ : ∃ x, xs[k]? = some x := ⟨_, List.getElem?_eq_getElem (by have := HN.out; omega)⟩
        obtain ⟨y, hy⟩ : ∃ y, xs[k + 1]? = some y := ⟨_, List.getElem?_eq_getElem (by have := HN.out; omega)⟩
        have hsn := compG_snoc (xs.take (k + 1)) y
        rw [take_last hx, ← take_snoc hy, HC.out] at hsn
        have hown := ownsB_frm H.out HF.out (by simp)
        have cx := cellsA2 hown hx
        have cy := cellsA2 hown hy
        have hcall := fun W => eqAr W y x
        unfold arE at hcall cx cy
        obtain ⟨k1, hk1⟩ : ∃ k1, k1 = k + 1 := ⟨_, rfl⟩
        have HK1 := Lib.hid hk1
        rw [← hk1] at i4 i5 hlt cy hsn hk ⊢
        rw [← hk1] at HC i3
        have HW : Hid (wr.cell? ⟨g, k1 * 2, none⟩ = some (.int .i64 y.1) ∧ wr.cell? ⟨g, k1 * 2 + 1, none⟩ = some (.int .i64 y.2) ∧ wr.cell? ⟨g, k * 2, none⟩ = some (.int .i64 x.1) ∧ wr.cell? ⟨g, k * 2 + 1, none⟩ = some (.int .i64 x.2)) := Lib.hid ⟨cy 0 _ (by omega) rfl, cy 1 _ (by omega) rfl, cx 0 _ (by omega) rfl, cx 1 _ (by omega) rfl⟩
        have KEEP : Hid (∀ w', Frm [] wr w' → w'.cell? ⟨g, k1 * 2, none⟩ = some (.int .i64 y.1) ∧ w'.cell? ⟨g, k1 * 2 + 1, none⟩ = some (.int .i64 y.2) ∧ w'.cell? ⟨g, k * 2, none⟩ = some (.int .i64 x.1) ∧ w'.cell? ⟨g, k * 2 + 1, none⟩ = some (.int .i64 x.2)) := Lib.hid fun w' hf => by
          obtain ⟨h0, h1, h2, h3⟩ := HW.out
          exact ⟨hf.cell h0 (by simp), hf.cell h1 (by simp), hf.cell h2 (by simp), hf.cell h3 (by simp)⟩
        have HX := Lib.hid hx
        have HY : Hid (xs[k1]? = some y) := Lib.hid (by rw [hk1]; exact hy)
        clear hown cx cy HW hx hy hk1
        by_cases hxy : y = x
        · rw [decide_eq_true hxy] at hcall
          rw [if_pos (by rw [hxy])] at hsn
          have HS := Lib.hid hsn
          clear hsn hxy
          obtain ⟨v0, v1, v2, v3⟩ := KEEP.out wr (Frm.refl [] wr)
          go_wp2_with fail
          go_quiet (fail)
          have hy5 : Frm [] wr (wr.drewN nq) := (Frm.refl [] wr).drewN _
          generalize wr.drewN nq = w5 at *
          have HF5 := Lib.hid (HF.out.trans hy5 (by simp))
          have i7 : (k1 : Int) ≤ (cap : Int) := by omega
          have i8 : IntKind.i64.wrap ((n : Int) - (k1 : Int)) = ((n - k1 : Nat) : Int) := by rw [IntWalk.i64_in _ (by omega)]; omega
          clear hy5
          have i9 : (0 : Int) ≤ (k1 : Int) := by omega
          go_wp2_with fail
          obtain ⟨nk, hnk⟩ : ∃ nk, n = k1 + nk := ⟨n - k1, by omega⟩
          have HNK := Lib.hid hnk
          have en : n - k1 = nk := by omega
          rw [en]
          have HS0 : Hid (xs.take k1 = compG (xs.take (k1 + 1))) := Lib.hid (by rw [HS.out])
          have hnk1 : 1 ≤ nk := by omega
          clear en hnk i3 i4 i5 i6 i2 hlt hk HX HY KEEP hcall i8 HK1 HC HF HS
          go_loopg [3, 5] (n - (k1 + 1)) (fun q t5 t7 wr => ∃ (l kk : Nat) (cur : List Ar), q = n - (k1 + l + 1) ∧ l + 1 ≤ nk ∧ k1 ≤ kk ∧ kk ≤ k1 + l ∧ t5 = .int .i64 kk ∧ t7 = .int .i64 ((l + 1 : Nat) : Int) ∧ CptA w wr B g n cap xs kk (k1 + l + 1) cur)
          case atStart =>
            exact ⟨0, k1, xs, rfl, by omega, by omega, by omega, rfl, rfl, HN.out.symm, HS0.out, fun _ _ => rfl, ownsB_frm H.out HF5.out (by simp), HF5.out.mono (by simp)⟩
          case round =>
            obtain ⟨l, kk, cur, rfl, hl, hk1k, hkl, rfl, rfl, hcl, hct, hcx, hco, hcf⟩ := hrel
            have HCL := Lib.hid hcl
            have HCT := Lib.hid hct
            have HCX := Lib.hid hcx
            have HCO := Lib.hid hco
            have HCF := Lib.hid hcf
            have i4 : (0 : Int) ≤ ((l + 1 : Nat) : Int) := by omega
            have i3 : IntKind.i64.wrap (((l + 1 : Nat) : Int) - 1) = (l : Int) := by rw [IntWalk.i64_in _ (by have := HNK.out; omega)]; omega
            have i2 : (0 : Int) ≤ (l : Int) := by omega
            have i10 : (0 : Int) ≤ (kk : Int) := by omega
            have i11 : (kk : Int) < (n : Int) := by have := HNK.out; omega
            clear hcl hct hcx hco hcf
            by_cases hlt : l + 1 < nk
            · have i5 : ((l + 1 : Nat) : Int) < (nk : Int) := by omega
              have i6 : (l : Int) < (nk : Int) := by omega
              obtain ⟨x, hx⟩ : ∃ x, xs[k1 + l]? = some x := ⟨_, List.getElem?_eq_getElem (by have := HN.out; have := HNK.out; omega)⟩
              obtain ⟨y, hy⟩ : ∃ y, xs[k1 + l + 1]? = some y := ⟨_, List.getElem?_eq_getElem (by have := HN.out; have := HNK.out; omega)⟩
              have hsn := compG_snoc (xs.take (k1 + l + 1)) y
              rw [take_last hx, ← take_snoc hy, ← HCT.out] at hsn
              have cx := cellsA2 HCO.out (show cur[k1 + l]? = some x by rw [HCX.out _ (by omega)]; exact hx)
              have cy := cellsA2 HCO.out (show cur[k1 + (l + 1)]? = some y by rw [HCX.out _ (by omega)]; exact hy)
              rw [Nat.add_mul] at cx cy
              have hcall := fun W => eqAr W y x
              unfold arE at hcall cx cy
              obtain ⟨l1, hl1⟩ : ∃ l1, l1 = l + 1 := ⟨_, rfl⟩
              have HL1 := Lib.hid hl1
              rw [← hl1] at i4 i5 hlt cy hl i3 ⊢
              have i12 : (l1 : Int) ≤ 10000000 := by have := HNK.out; omega
              have HW : Hid (wr.cell? ⟨g, k1 * 2 + l1 * 2, none⟩ = some (.int .i64 y.1) ∧ wr.cell? ⟨g, k1 * 2 + l1 * 2 + 1, none⟩ = some (.int .i64 y.2) ∧ wr.cell? ⟨g, k1 * 2 + l * 2, none⟩ = some (.int .i64 x.1) ∧ wr.cell? ⟨g, k1 * 2 + l * 2 + 1, none⟩ = some (.int .i64 x.2)) := Lib.hid ⟨cy 0 _ (by omega) rfl, cy 1 _ (by omega) rfl, cx 0 _ (by omega) rfl, cx 1 _ (by omega) rfl⟩
              have KEEP : Hid (∀ w', Frm [] wr w' → w'.cell? ⟨g, k1 * 2 + l1 * 2, none⟩ = some (.int .i64 y.1) ∧ w'.cell? ⟨g, k1 * 2 + l1 * 2 + 1, none⟩ = some (.int .i64 y.2) ∧ w'.cell? ⟨g, k1 * 2 + l * 2, none⟩ = some (.int .i64 x.1) ∧ w'.cell? ⟨g, k1 * 2 + l * 2 + 1, none⟩ = some (.int .i64 x.2)) := Lib.hid fun w' hf => by
                obtain ⟨h0, h1, h2, h3⟩ := HW.out
                exact ⟨hf.cell h0 (by simp), hf.cell h1 (by simp), hf.cell h2 (by simp), hf.cell h3 (by simp)⟩
              clear cx cy HW hx hl1
              by_cases hxy : y = x
              · rw [decide_eq_true hxy] at hcall
                rw [if_pos (by rw [hxy])] at hsn
                have HS := Lib.hid hsn
                clear hsn hxy hy
                obtain ⟨v0, v1, v2, v3⟩ := KEEP.out wr (Frm.refl [] wr)
                go_wp2_with fail
                go_quiet (fail)
                have hy5 : Frm [] wr (wr.drewN nq) := (Frm.refl [] wr).drewN _
                generalize wr.drewN nq = w5 at *
                go_wp2_with fail
                go_roundg (n - (k1 + l1 + 1))
                case rel =>
                  refine ⟨l1, kk, cur, rfl, by omega, by omega, by have := HL1.out; omega, rfl, by go_num, HCL.out, ?_, fun i hi => HCX.out i (by have := HL1.out; omega), ownsB_frm HCO.out hy5 (by simp), HCF.out.trans hy5 (by simp)⟩
                  have e9 : k1 + l1 + 1 = k1 + l + 1 + 1 := by have := HL1.out; omega
                  rw [e9, HS.out]
                case measure => have := HL1.out; have := HNK.out; omega
              · rw [decide_eq_false hxy] at hcall
                rw [if_neg (fun h9 => hxy (by cases h9; rfl))] at hsn
                have HS := Lib.hid hsn
                have HY := Lib.hid hy
                clear hsn hxy hy
                obtain ⟨v0, v1, v2, v3⟩ := KEEP.out wr (Frm.refl [] wr)
                go_wp2_with fail
                go_quiet (fail)
                have hy5 : Frm [] wr (wr.drewN nq) := (Frm.refl [] wr).drewN _
                generalize wr.drewN nq = w5 at *
                obtain ⟨v0, v1, v2, v3⟩ := KEEP.out _ hy5
                have O5 := ownsB_frm HCO.out hy5 (by simp)
                obtain ⟨g9, cap9, e9, _, _, _, hrow⟩ := ownsB_some O5 (by have := HNK.out; omega)
                cases e9
                obtain ⟨z, hz⟩ : ∃ z, cur[kk]? = some z := ⟨_, List.getElem?_eq_getElem (by have := HCL.out; have := HNK.out; omega)⟩
                have cz := cellsA2 O5 hz
                have z0 := hrow.frozen (kk * 2)
                have z1 := hrow.frozen (kk * 2 + 1)
                unfold arE at cz
                have b0 := cz 0 _ (by omega) rfl
                have b1 := cz 1 _ (by omega) rfl
                rw [Nat.add_zero] at b0
                have HY5 := Lib.hid hy5
                have HO5 := Lib.hid O5
                clear cz hz hrow O5 hy5
                go_wp2_with fail
                have O6 := Lib.hid (owns_setCells (v := .slice (some ⟨g, 0, none⟩) n cap) rfl (arE y) (kk * 2) _ _ HO5.out)
                have F6 := Lib.hid ((HCF.out.trans HY5.out (by simp)).trans (frm_setCells (g := g) (arE y) (kk * 2) w5) (fun x hx => .inl hx))
                go_roundg (n - (k1 + l1 + 1))
                case rel =>
                  have hkc : kk < cur.length := by have := HCL.out; have := HNK.out; omega
                  refine ⟨l1, kk + 1, cur.set kk y, rfl, by omega, by omega, by have := HL1.out; omega, by go_num, by go_num, by rw [List.length_set]; exact HCL.out, ?_, fun i hi => ?_, ?_, F6.out⟩
                  · have e9 : k1 + l1 + 1 = k1 + l + 1 + 1 := by have := HL1.out; omega
                    rw [e9, HS.out, take_set_snoc hkc]
                  · rw [List.getElem?_set_ne (by have := HL1.out; omega)]
                    exact HCX.out i (by have := HL1.out; omega)
                  · rw [setA2 cur kk y hkc]
                    exact O6.out
                case measure => have := HL1.out; have := HNK.out; omega
            · have i5 : ¬ ((l + 1 : Nat) : Int) < (nk : Int) := by omega
              have hp : k1 + l + 1 = n := by have := HNK.out; omega
              have HP : Hid (cur.take kk = compG xs) := Lib.hid (by
                rw [HCT.out, hp, List.take_of_length_le (by have := HN.out; omega)])
              have hlen : (compG xs).length = kk := by
                rw [← HP.out, List.length_take]
                have := HCL.out
                have := HNK.out
                omega
              have HLEN := Lib.hid hlen
              obtain ⟨g9, cap9, e9, _, _, _, hrow⟩ := ownsB_some HCO.out (by omega)
              cases e9
              have hc9 := HCO.out.1
              have i13 : (kk : Int) ≤ (cap : Int) := by omega
              have i14 : (kk : Int) ≤ (n : Int) := by omega
              have hcl := clear2 51 55 wr g (kk * 2) (n - kk) (cap - kk) Tryz.underlying51 Tryz.zeroValue55 (by omega) (fun j hj => by
                have h9 : kk * 2 + j < (cur.flatMap arE).length := by rw [hc9]; omega
                rw [hrow.cell (List.getElem?_eq_getElem h9)]
                rfl) (fun j _ => hrow.frozen _)
              obtain ⟨zs, hzs⟩ : ∃ zs, zs = clearA (n - kk) := ⟨_, rfl⟩
              rw [← hzs] at hcl
              have HFR := Lib.hid (frm_setCells (g := g) zs (kk * 2) wr)
              have hown := owns_setCells (v := .slice (some ⟨g, 0, none⟩) n cap) rfl zs (kk * 2) wr _ HCO.out
              have hcut := owns_cut hown (show kk ≤ n by omega) (by omega)
              rw [setL_take _ _ _ _ (Nat.le_refl _)] at hcut
              have htk : (cur.flatMap arE).take (kk * 2) = (compG xs).flatMap arE := by
                rw [← HP.out, flatMap_takeA cur kk]
              rw [htk] at hcut
              have HCUT := Lib.hid hcut
              clear hrow hc9 hown hcut htk hzs hlen hp
              go_wp2_with fail
              go_ret
              refine ⟨?_, ?_, (HCF.out.trans HFR.out (fun x hx => .inl hx)).mono (by simp [Value.ownBlock])⟩
              · rw [HLEN.out]; rfl
              · rw [HLEN.out]; exact HCUT.out
        · rw [decide_eq_false hxy] at hcall
          rw [if_neg (fun h9 => hxy (by cases h9; rfl))] at hsn
          have HS : Hid (compG (xs.take (k1 + 1)) = xs.take (k1 + 1)) := Lib.hid (by
            have hy' : xs[k1]? = some y := HY.out
            rw [hsn, take_snoc hy'])
          clear hsn hxy
          obtain ⟨v0, v1, v2, v3⟩ := KEEP.out wr (Frm.refl [] wr)
          go_wp2_with fail
          go_quiet (fail)
          have hy5 : Frm [] wr (wr.drewN nq) := (Frm.refl [] wr).drewN _
          generalize wr.drewN nq = w5 at *
          go_wp2_with fail
          go_roundg (n - (k1 + 1))
          case rel => exact ⟨k1, rfl, by omega, by go_num, HS.out, HF.out.trans hy5 (by simp)⟩
          case measure => have := HK1.out; omega
      · have i5 : ¬ ((k + 1 : Nat) : Int) < (n : Int) := by omega
        have HX : Hid (compG xs = xs) := Lib.hid (by
          have := HC.out
          rw [List.take_of_length_le (by have := HN.out; omega)] at this
          exact this)
        go_wp2_with fail
        go_ret
        refine ⟨?_, ?_, HF.out.mono (by simp)⟩
        · rw [HX.out, ← HN.out]; rfl
        · rw [HX.out, ← HN.out]; exact ownsB_frm H.out HF.out (by simp)

end Go.Proofs.YtdknbgejhhoaiaaGreat.Ind

/- Contract of strong.key. -/
namespace Go.Proofs.YtdknbgejhhoaiaaGreat.Beh
open Go.RowKit Go.Lib Go.Proofs.YtdknbgejhhoaiaaGreat Go.Proofs.YtdknbgejhhoaiaaGreat.Ind

/-- The numbers of a class and a signature. -/
def flatK (c : Int) (l : List Ar) : List Int := c :: l.flatMap fun m => [m.1, m.2]
theorem flatK_snoc (c : Int) (l : List Ar) (m : Ar) : flatK c (l ++ [m]) = flatK c l ++ [m.1, m.2] := by simp [flatK]
theorem flatK_len (c : Int) (l : List Ar) : (flatK c l).length = 1 + 2 * l.length := by
  induction l with
  | nil => rfl
  | cons a r ih =>
    simp only [flatK, List.flatMap_cons, List.length_cons, List.length_append, List.length_nil] at ih ⊢
    omega
theorem flatK_inj {c d : Int} : ∀ {l m : List Ar}, flatK c l = flatK d m → c = d ∧ l = m
  | [], [], h => by simpa [flatK] using h
  | [], b :: m, h => by simp [flatK] at h
  | a :: l, [], h => by simp [flatK] at h
  | a :: l, b :: m, h => by
    simp only [flatK, List.flatMap_cons, List.cons_append, List.nil_append, List.cons.injEq] at h
    obtain ⟨h1, h2, h3, h4⟩ := h
    obtain ⟨_, h5⟩ := flatK_inj (c := c) (d := c) (l := l) (m := m) (by simp only [flatK, List.cons.injEq, true_and]; exact h4)
    exact ⟨h1, by rw [Prod.ext h2 h3, h5]⟩
theorem infoMk : (Tryz.prog.info? 147).map (fun i => (i.zero, i.size, i.bytes)) = some (some (.agg #[.int .i64 0, .int .i64 0]), 2, 16) := by kernel_rfl

set_option linter.unusedSimpArgs false in
set_option maxRecDepth 100000 in
set_option maxHeartbeats 4000000 in
theorem skey_any {F : List Nat} (w : World) (c : Int) (v : Value) (l : List Ar) (h : RowV w F v l.length 2 (l.flatMap arE)) (hs : Small (flatK c l)) (hl : l.length ≤ 40000) :
    Calls Tryz.prog 93 #[.int .i64 c, v] w fun e w' => e = .returned (.string (keyS (flatK c l))) ∧ Frm [] w w' := by
  obtain ⟨a, cp, rfl⟩ := RowV.shape h
  have hlc : (l.length : Int) ≤ (cp : Int) := by
    obtain ⟨_, a', c', e, h2, _⟩ := h
    cases e
    omega
  have H := Lib.hid h
  have HS := Lib.hid hs
  clear h hs
  go_enter Tryz.func93, Tryz.ntmps93
  go_wp2_with fail
  obtain ⟨V, hV⟩ : ∃ V, V = w.alloc (.cells #[.int .i64 c] 3) := ⟨_, rfl⟩
  have S2 : Hid (Sep w V [ownC 3 1 (.slice (some ⟨w.heap.size, 0, none⟩) 1 1) 1 (ints (flatK c []))]) := Lib.hid (by
    rw [hV]
    exact (Sep.start w).add (ownC 3 1 (.slice (some ⟨w.heap.size, 0, none⟩) 1 1) 1 (ints (flatK c []))) ((Frm.refl [] w).alloc _) (ownC_of (owns_fullB w 0 3 1 1 [.int .i64 c] #[.int .i64 c] rfl rfl (by decide) (by omega))) (by simp [ownC, Value.ownBlock]))
  rw [← hV]
  clear hV
  go_loopg [5, 12] l.length (fun q t5 t12 wr => ∃ (k n : Nat) (ba : Option Addr) (bc : Nat), q = l.length - k ∧ k ≤ l.length ∧ n = 1 + 2 * k ∧ t12 = .int .i64 k ∧ t5 = .slice ba n bc ∧ Sep w wr [ownC 3 1 (.slice ba n bc) n (ints (flatK c (l.take k)))])
  case atStart => exact ⟨0, 1, _, _, rfl, Nat.zero_le _, rfl, rfl, rfl, S2.out⟩
  case round =>
    clear S2
    obtain ⟨k, n, ba, bc, hq, hk, hn, rfl, rfl, hs⟩ := hrel
    have HQ := Lib.hid hq
    have HN := Lib.hid hn
    have S := Lib.hid hs
    have i4 : (0 : Int) ≤ (k : Int) := by omega
    have hn1 : n ≤ 100000 := by omega
    clear hq hs hn
    by_cases hlt : k < l.length
    · have i5 : (k : Int) < (l.length : Int) := by omega
      obtain ⟨⟨x, y⟩, hx⟩ : ∃ x, l[k]? = some x := ⟨_, List.getElem?_eq_getElem hlt⟩
      obtain ⟨_, a', c', e', _, _, _, hcell⟩ := H.out
      obtain ⟨rfl, rfl⟩ : a = a' ∧ cp = c' := by simpa using e'
      have g0 := flatMap_get (enc := arE) (k := 2) (fun _ => rfl) hx 0 (by decide)
      have g1 := flatMap_get (enc := arE) (k := 2) (fun _ => rfl) hx 1 (by decide)
      obtain ⟨b, o, rfl, _, hbl, hc0⟩ := hcell (k * 2) (.int .i64 x) (by rw [Nat.add_zero] at g0; rw [g0]; rfl)
      obtain ⟨b', o', e2, _, _, hc1⟩ := hcell (k * 2 + 1) (.int .i64 y) (by rw [g1]; rfl)
      obtain ⟨rfl, rfl⟩ : b = b' ∧ o = o' := by simpa using e2
      rw [← Nat.add_assoc] at hc1
      have c0 := S.out.frm.cell hc0 (by simp)
      have c1 := S.out.frm.cell hc1 (by simp)
      have HX := Lib.hid hx
      have S3 := Lib.hid ((S.out.nil ((Frm.refl [] wr).alloc (.cells #[.int .i64 x, .int .i64 y] 147))).nil ((Frm.refl [] _).alloc (.cells #[.int .i64 x, .int .i64 y] 3)))
      have HSRC : Hid (RowAt ((wr.alloc (.cells #[.int .i64 x, .int .i64 y] 147)).alloc (.cells #[.int .i64 x, .int .i64 y] 3)) (wr.heap.size + 1) 3 [.int .i64 x, .int .i64 y]) := Lib.hid (row_made1 wr _ _ _ _ rfl)
      clear hcell hc0 hc1 e' e2 hx g0 g1
      go_wp2_with (first
        | (at_builtin; refine app_row rfl (.tmp 16) (.tmp 21) 22 3 _ 1 8 rfl Tryz.underlying22 infoInt rfl (by decide) (by decide) 0 n (.slice ba n bc) _ rfl (S3.out.at_ 0 rfl) _ 2 [.int .i64 x, .int .i64 y] [] rfl (rowV_cells (size := 1) HSRC.out rfl (Nat.le_refl _) (by decide) (by simp)) (by simp [Value.oneCell']) (n + 2) rfl (by omega) (Nat.zero_le _) ?_; intro a8 c8 w8 own8 hf8 hb8; have S8 := Lib.hid (S3.out.step 0 (ownC 3 1 (.slice a8 (n + 2) c8) (n + 2) (ints (flatK c (l.take (k + 1))))) rfl hf8 (fun k hk => .inl hk) (by rw [take_snoc HX.out, flatK_snoc]; have h9 := own8; rw [show ints (flatK c (l.take k)) ++ [Value.int .i64 x, Value.int .i64 y] = ints (flatK c (l.take k) ++ [x, y]) from by simp [ints]] at h9; exact h9) (fresh_own hb8)); clear own8 hf8 hb8)
        | fail)
      go_roundg (l.length - (k + 1))
      case rel => exact ⟨k + 1, n + 2, a8, c8, rfl, by omega, by have := HN.out; omega, by go_num, rfl, S8.out⟩
      case measure => have := HQ.out; omega
    · have i5 : ¬ (k : Int) < (l.length : Int) := by omega
      have hkl : k = l.length := by omega
      have hsS := S.out
      rw [hkl, List.take_length] at hsS
      have hfl := flatK_len c l
      have hnl : n = (flatK c l).length := by rw [hfl, HN.out, hkl]
      have hrv : RowV wr [] (.slice ba (flatK c l).length bc) (flatK c l).length 1 (ints (flatK c l)) := by
        have := rowV_of_owns (F := []) (hsS.at_ 0 rfl) (by simp)
        rwa [hnl] at this
      have hky := key_any wr _ _ hrv HS.out (by omega)
      rw [← hnl] at hky
      have HKY := Lib.hid hky
      have HFR := Lib.hid hsS.frm
      clear hkl hsS S hfl hnl hrv hky
      go_wp2_with fail
      refine HKY.out.mono ?_
      rintro e9 w9 ⟨rfl, hf9⟩
      have HF9 := Lib.hid (HFR.out.trans hf9 (by simp))
      clear hf9
      go_wp2_with fail
      go_ret
      exact ⟨rfl, HF9.out⟩
end Go.Proofs.YtdknbgejhhoaiaaGreat.Beh

/- Sorting rows of arcs with the comparison of rows (the Great seat). -/
namespace Go.Proofs.YtdknbgejhhoaiaaGreat.Ind
open Go.Shelf Go.RowKit Go.Lib Go.Sort

set_option linter.unusedSimpArgs false in
set_option maxRecDepth 100000 in
set_option maxHeartbeats 4000000 in
theorem cmpRow_any (x y : Ar) (w : World) :
    Calls Tryz.prog 50 #[.agg (arE x).toArray, .agg (arE y).toArray] w fun e w' => e = .returned (.int .i64 (cmpAr x y)) ∧ ∃ q os, w' = grow (w.drewN q) os := by
  obtain ⟨e, s⟩ := x
  obtain ⟨e', s'⟩ := y
  obtain ⟨R, hR⟩ : ∃ R, cmpAr (e, s) (e', s') = R := ⟨_, rfl⟩
  rw [hR]
  have HR := Lib.hid hR
  clear hR
  unfold arE
  simp only
  have hb1 := ((RowAt.made w 55 [.int .i64 e, .int .i64 s] #[.int .i64 e, .int .i64 s] rfl).alloc (.cells #[.int .i64 e', .int .i64 s'] 55))
  have hb2 := RowAt.made (w.alloc (.cells #[.int .i64 e, .int .i64 s] 55)) 55 [.int .i64 e', .int .i64 s'] #[.int .i64 e', .int .i64 s'] rfl
  rw [show (w.alloc (.cells #[.int .i64 e, .int .i64 s] 55)).heap.size = w.heap.size + 1 from by simp] at hb2
  go_enter Tryz.func50, Tryz.ntmps50
  go_wp2_with fail
  have HW : Hid (((w.alloc (.cells #[.int .i64 e, .int .i64 s] 55)).alloc (.cells #[.int .i64 e', .int .i64 s'] 55)) = grow w #[.cells #[.int .i64 e, .int .i64 s] 55, .cells #[.int .i64 e', .int .i64 s'] 55]) := Lib.hid (by rw [alloc_eq_grow, alloc_eq_grow, grow_grow]; rfl)
  generalize hX : ((w.alloc (.cells #[.int .i64 e, .int .i64 s] 55)).alloc (.cells #[.int .i64 e', .int .i64 s'] 55)) = W at *
  have KEEP : Hid (∀ w', Frm [] W w' → w'.cell? ⟨w.heap.size, 0, none⟩ = some (.int .i64 e) ∧ w'.cell? ⟨w.heap.size, 1, none⟩ = some (.int .i64 s) ∧ w'.cell? ⟨w.heap.size + 1, 0, none⟩ = some (.int .i64 e') ∧ w'.cell? ⟨w.heap.size + 1, 1, none⟩ = some (.int .i64 s')) := Lib.hid fun w' hf => by
    have h1 := hb1.frm hf (by simp)
    have h2 := hb2.frm hf (by simp)
    exact ⟨h1.cell (i := 0) rfl, h1.cell (i := 1) rfl, h2.cell (i := 0) rfl, h2.cell (i := 1) rfl⟩
  clear hb1 hb2
  go_region_held3 (fun w' => w'.cell? ⟨w.heap.size, 0, none⟩ = some (.int .i64 e) ∧ w'.cell? ⟨w.heap.size, 1, none⟩ = some (.int .i64 s) ∧ w'.cell? ⟨w.heap.size + 1, 0, none⟩ = some (.int .i64 e') ∧ w'.cell? ⟨w.heap.size + 1, 1, none⟩ = some (.int .i64 s'))
    (first | exact KEEP.out _ (Frm.refl [] W).drew | exact KEEP.out _ ((Frm.refl [] W).drew.alloc _))
    (first | (go_at_call 39; refine (cmpI_any _ _ _).mono ?_; rintro e1 w1 ⟨rfl, rfl⟩) | (go_at_call 38; refine (orL_any _ _ _ [cmpI e e', cmpI s s'] _ (rd_of_owns (owns_fullB W.drew 0 _ 1 2 _ _ rfl rfl (by decide) (Nat.zero_le _)) (Nat.le_refl _))).mono ?_; rintro e1 w1 ⟨rfl, rfl⟩))
  go_wp2_with fail
  go_ret
  refine ⟨?_, ⟨1, ⟨_, grow_drew_alloc HW.out _⟩⟩⟩
  rw [← HR.out]
  rfl

theorem egRow : ∀ args w, (callFunc 50 args).run Tryz.prog w = .ok (.enter 50 args) w := enters_of Tryz.func50 (by kernel_rfl) rfl
theorem sortRow_any (B : Nat) (a : Option Addr) (cap n : Nat) (xs : List Ar) (w : World) (h : w.ownsRow B 55 2 (.slice a n cap) n (xs.flatMap arE)) (hl : xs.length = n) (hn : n ≤ 10000000) :
    Calls Tryz.prog 36 #[.slice a n cap, .func (.func 50) #[] #[]] w fun e w' => (e = .returned (.tuple #[]) ∧ w'.ownsRow B 55 2 (.slice a n cap) n ((xs.mergeSort fun x y => !ltOf cmpAr y x).flatMap arE)) ∧ Frm (Value.slice a n cap).ownBlock.toList w w' := by
  subst hl
  rcases h.2 with ⟨h0, h1⟩ | ⟨g, cp, cur, h0, hb, hg, h1, h2, h3, h4⟩
  · have hx : xs = [] := List.eq_nil_of_length_eq_zero h1
    subst hx
    refine (AnyF.slices_SortFunc_none Tryz.sortAr a cap _ w).mono ?_
    rintro e w' ⟨rfl, rfl⟩
    refine ⟨⟨rfl, ?_⟩, Frm.refl _ _⟩
    rw [List.mergeSort_nil]
    exact h
  · obtain ⟨rfl, rfl⟩ : a = some ⟨g, 0, none⟩ ∧ cap = cp := by simpa using h0
    have hH := holdsK_of (enc := arE) (k := 2) (fun _ => rfl) xs hg h4
    have hgl := (Array.getElem?_eq_some_iff.1 hg).1
    refine (AnyQ.slices_SortFunc_total Tryz.sortAr 2 Tryz.isAgg55 Tryz.sizeOf55 arE (fun _ => rfl) oneAr cmpAr (swo_of sto_ar) 50 #[] g 0 cap xs.toArray w egRow (fun _ _ _ _ x y => cmpRow_any x y _) hH hgl (by simp; omega) sto_ar.tri).mono ?_
    rintro e w' ⟨rfl, k, os, rfl⟩
    refine ⟨⟨rfl, ?_⟩, ?_⟩
    · have := owns_sortedK (w := w) (n := k) (os := os) (enc := arE) (k := 2) (cap := cap) (fun _ => rfl) (xs.mergeSort fun x y => !ltOf cmpAr y x) hb hg (by rw [List.length_mergeSort]; exact h1) h2 h3
      rw [List.length_mergeSort] at this
      exact this
    · have := frm_sortedK (w := w) (g := g) (n := k) (os := os) (flatK arE 2 (xs.mergeSort fun x y => !ltOf cmpAr y x).toArray)
      exact this.mono (by simp [Value.ownBlock])

end Go.Proofs.YtdknbgejhhoaiaaGreat.Ind
