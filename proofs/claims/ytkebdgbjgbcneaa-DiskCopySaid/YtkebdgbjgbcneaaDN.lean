/- Contract of Names of the program's disk. -/
import Derived.Test.YtkebdgbjgbcneaaDL
import Derived.Sort.OwnSorted
namespace Go.Proofs.Ytkebdgbjgbcneaa
open Go.RowKit Go.Maps

theorem infoS : (Try.prog.info? 9).map (fun i => (i.zero, i.size, i.bytes)) = some (some (str []), 1, 16) := by kernel_rfl
theorem strs_len (xs : List Nm) : (strs xs).length = xs.length := by simp [strs]
/-- append(s, x) at []string. -/
theorem app_str {w : World} {ops : Array Oper} {rest : List Oper} {o : Oper} {a : Act} {Q : Exit → Act → World → Prop} (hgd : o.guard = none) (s x : Operand)
    (ho : o.op = .call { callee := .builtin .append, args := #[s, x], argTypes := #[29, 29] })
    (B n : Nat) (v : Value) (xs : List Nm) (hs : a.eval s = v) (hown : w.ownsRow B 9 1 v n (strs xs)) (g : Nat) (y : Nm) (hx : a.eval x = .slice (some ⟨g, 0, none⟩) 1 1) (hy : w.cell? ⟨g, 0, none⟩ = some (str y)) (hb : n ≤ 100000) (hB : B ≤ w.heap.size)
    (h : ∀ a' cp w', w'.ownsRow B 9 1 (.slice a' (n + 1) cp) (n + 1) (strs (xs ++ [y])) → Frm v.ownBlock.toList w w' → (∀ k, (Value.slice a' (n + 1) cp).ownBlock = some k → v.ownBlock = some k ∨ k = w.heap.size) → wpList Try.prog ops Q rest (a.put o.dst (.slice a' (n + 1) cp)) w') : wpList Try.prog ops Q (o :: rest) a w := by
  obtain ⟨i0, hi, hz0, hz1, hz2⟩ := info_parts infoS
  refine Go.wpList_append_own_at w hgd s x 29 ho B 9 i0 (str []) 1 16 Try.underlying29 hi hz0 hz1 hz2 rfl (by decide) v n (strs xs) hs hown ⟨g, 0, none⟩ 1 1 (strs [y]) hx rfl (fun j u hj => ?_) (fun u hu => ?_) (by unfold maxLen; omega) (by omega) hB ?_
  · cases j with
    | zero =>
      simp only [strs, List.map_cons, List.getElem?_cons_zero, Option.some.injEq] at hj
      subst hj
      rw [Addr.add_lit]
      exact hy
    | succ j => simp [strs] at hj
  · simp only [strs, List.mem_map] at hu
    obtain ⟨z, _, rfl⟩ := hu
    rfl
  · intro v' w' hown' hgr _ hloc
    obtain ⟨a', cp, rfl, _⟩ := owns_shape (ownsB_mono hown' (Nat.zero_le _))
    refine h a' cp w' (by rw [strs, List.map_append]; exact hown') ((Frm.refl _ _).grown hgr (fun k hk => .inl (by simp [hk]))) (fun k hk => ?_)
    rcases hloc with h9 | h9
    · exact .inl (by rw [← h9]; exact hk)
    · rw [h9] at hk
      exact .inr (by simpa using hk.symm)

open Go.Sort in
theorem sort_str (B : Nat) (a : Option Addr) (cap n : Nat) (xs : List Nm) (w : World) (h : w.ownsRow B 9 1 (.slice a n cap) n (strs xs)) (hn : n ≤ 10000000) :
    Calls Try.prog 34 #[.slice a n cap] w fun e w' => (e = .returned (.tuple #[]) ∧ w'.ownsRow B 9 1 (.slice a n cap) n (strs (xs.mergeSort fun x y => decide (x ≤ y)))) ∧ Frm (Value.slice a n cap).ownBlock.toList w w' := by
  have hl : xs.length = n := by have := h.1; rw [strs_len] at this; omega
  subst hl
  rcases h.2 with ⟨h0, h1⟩ | ⟨g, cp, cur, h0, hb, hg, h1, h2, h3, h4⟩
  · have hx : xs = [] := by simpa [strs] using h1
    subst hx
    refine (Try.slices_Sort_string_none a cap w).mono ?_
    rintro e w' ⟨rfl, rfl⟩
    refine ⟨⟨rfl, ?_⟩, Frm.refl _ _⟩
    rw [List.mergeSort_nil]
    exact h
  · obtain ⟨rfl, rfl⟩ : a = some ⟨g, 0, none⟩ ∧ cap = cp := by simpa using h0
    rw [Nat.mul_one] at h4
    refine (Try.slices_Sort_string g 0 cap xs w (holds_of_block hg h4) (Array.getElem?_eq_some_iff.1 hg).1 (by omega)).mono ?_
    rintro e w' ⟨rfl, k, os, rfl⟩
    refine ⟨⟨rfl, ?_⟩, ?_⟩
    · exact ownsRow_sorted (List.length_mergeSort _) hb hg h1 h2 h3
    · exact (Frm.refl _ w).grown (grownBy_sorted _) (fun q hq => .inl (by simpa [Value.ownBlock] using hq.symm))

theorem bb_lt : ∀ {s t : Nm}, bytesBefore s t = true → s < t
  | [], [], h => by cases h
  | [], _ :: _, _ => List.nil_lt_cons _ _
  | _ :: _, [], h => by cases h
  | a :: r, b :: u, h => by
    simp only [bytesBefore, Bool.or_eq_true, Bool.and_eq_true, decide_eq_true_eq, beq_iff_eq] at h
    rw [List.cons_lt_cons_iff]
    rcases h with h | ⟨rfl, h⟩
    · exact .inl h
    · exact .inr ⟨rfl, bb_lt h⟩
theorem le_total_nm (a b : Nm) : (decide (a ≤ b) || decide (b ≤ a)) = true := by
  simp only [Bool.or_eq_true, decide_eq_true_eq]
  exact List.le_total a b
theorem names_sort {n : Nat} {l : Dir} (h : DirOk n l) {out : List Nm} (hnd : out.Nodup) (hm : ∀ s, s ∈ out ↔ s ∈ l.map (·.1)) : out.mergeSort (fun x y => decide (x ≤ y)) = l.map (·.1) := by
  have hs : (l.map (·.1)).Pairwise fun a b => bytesBefore a b = true := List.pairwise_map.2 h.asc
  have hnd2 : (l.map (·.1)).Nodup := hs.imp (fun {a b} hab e => by rw [e, bb_irrefl] at hab; cases hab)
  have hp : (out.mergeSort fun x y => decide (x ≤ y)).Perm (l.map (·.1)) := (List.mergeSort_perm _ _).trans (List.perm_ext_iff_of_nodup hnd hnd2 |>.2 hm)
  refine List.Perm.eq_of_pairwise (le := fun a b => decide (a ≤ b) = true) (fun a b _ _ h1 h2 => ?_) (List.pairwise_mergeSort (fun a b c h1 h2 => ?_) le_total_nm out) (hs.imp (fun {a b} hab => ?_)) hp
  · exact List.le_antisymm (of_decide_eq_true h1) (of_decide_eq_true h2)
  · exact decide_eq_true (List.le_trans (of_decide_eq_true h1) (of_decide_eq_true h2))
  · exact decide_eq_true (List.le_of_lt (bb_lt hab))

def NamesEnd (B : Nat) (xs : List Nm) (w' : World) (e : Ending) : Prop := ∃ a c, e = .returned (.slice a xs.length c) ∧ w'.ownsRow B 9 1 (.slice a xs.length c) xs.length (strs xs)
theorem fst_mem {l : Dir} {s : Nm} : s ∈ l.map (·.1) ↔ (findD l s).isSome = true := by
  rw [List.mem_map]
  constructor
  · rintro ⟨p, hp, rfl⟩
    cases hq : findD l p.1 with
    | some _ => rfl
    | none => exact absurd rfl (findD_none hq p hp)
  · intro h
    obtain ⟨i, hi⟩ := Option.isSome_iff_exists.1 h
    exact ⟨_, findD_some hi, rfl⟩

set_option linter.unusedSimpArgs false in
set_option maxRecDepth 100000 in
set_option maxHeartbeats 2000000 in
theorem names_any {w : World} {d b1 n0 : Nat} {x2 x3 : Value} {bs : Nat → Nat} {m : DM} (h : RowAt w d 58 (hdC m (.map (some b1)) x2 x3)) (hm : MapD w b1 bs m.dir) (ho : DirOk n0 m.dir) :
    Calls Try.prog 12 #[.pointer (some ⟨d, 0, none⟩)] w fun e w' => NamesEnd w.heap.size (namesM m) w' e ∧ Frm [] w w' := by
  have c1 := h.cell (i := 1) rfl
  have HM := Lib.hid hm
  have HO := Lib.hid ho
  clear h hm ho
  go_enter Try.func12, Try.ntmps12
  go_wp2_with (first | (at_range; refine wpl_range rfl _ rfl b1 bs m.dir rfl HM.out ?_; intro w1 hr1 hf1 hs1) | fail)
  go_frame
  have HR1 := Lib.hid hr1
  have HF1 := Lib.hid hf1
  clear hr1 hf1 c1
  obtain ⟨r, hr⟩ : ∃ r, r = w.heap.size := ⟨_, rfl⟩
  have HRR := Lib.hid hr
  have HS1 : Hid (w1.heap.size = r + 1) := Lib.hid (by omega)
  rw [← hr] at HR1 ⊢
  clear hr hs1
  go_loopg [3] m.dir.length (fun q s3 wr => ∃ (left : Lit → Bool) (cnt : Nat) (out : List Nm) (a3 : Option Addr) (N c3 : Nat), cnt = q ∧ s3 = .slice a3 N c3 ∧ Rng wr b1 r bs m.dir left cnt ∧ Frm [] w wr ∧ wr.ownsRow w1.heap.size 9 1 (.slice a3 N c3) N (strs out) ∧ out.length = N ∧ N + cnt ≤ m.dir.length ∧ out.Nodup ∧ (∀ s, s ∈ out ↔ ((findD m.dir s).isSome = true ∧ left (.string s) = false)))
  case atStart => exact ⟨_, _, [], none, 0, 0, rfl, rfl, HR1.out, HF1.out, World.ownsRow_nil _ _ _ _, rfl, by omega, List.nodup_nil, fun s => by rw [dir_has]; cases (findD m.dir s).isSome <;> simp⟩
  case round =>
    obtain ⟨left, cnt, out, a3, N, c3, rfl, rfl, hrg, hfr, hown, hlen, hcnt, hnd, hmem⟩ := hrel
    have HRG := Lib.hid hrg
    have HFR := Lib.hid hfr
    have HOW := Lib.hid hown
    have HLN := Lib.hid hlen
    have HND := Lib.hid hnd
    have HME := Lib.hid hmem
    have HCN := Lib.hid hcnt
    have hszr : r < wr.heap.size := hrg.lt
    have hb1r := MapD.lt (HM.out.frm hfr (by simp))
    clear hrg hfr hown hlen hnd hmem hcnt
    go_wp2_with (first | (at_next; refine wpl_next rfl _ rfl b1 r bs m.dir left cnt rfl HRG.out ?_ ?_) | fail)
    · intro hc0 hl0
      have HL0 := Lib.hid hl0
      clear hl0
      have hsort := names_sort HO.out HND.out (fun s => by rw [HME.out s, HL0.out, fst_mem]; simp)
      have hN := HCN.out
      have h64 := HO.out.few
      have hso := sort_str w1.heap.size a3 c3 N out wr HOW.out (by omega)
      rw [hsort] at hso
      have HSO := Lib.hid hso
      have hNN : Hid (N = (namesM m).length) := Lib.hid (by
        have h1 := List.length_mergeSort (le := fun x y => decide (x ≤ y)) out
        rw [hsort, HLN.out] at h1
        exact h1.symm)
      clear hsort hso
      go_wp2_with fail
      refine HSO.out.mono ?_
      rintro e5 w5 ⟨⟨rfl, hown5⟩, hf5⟩
      have HO5 := Lib.hid hown5
      have HF5 : Hid (Frm [] w w5) := Lib.hid (HFR.out.trans hf5 (fun x hx => .inr (by
        have h1 := (HOW.out.lt x (by simpa using hx)).1
        have h2 := HS1.out
        have h3 := HRR.out
        omega)))
      clear hown5 hf5
      go_wp2_with fail
      go_ret
      refine ⟨⟨a3, c3, by rw [← hNN.out]; rfl, ?_⟩, HF5.out⟩
      rw [← hNN.out]
      exact ownsB_mono HO5.out (by have h2 := HS1.out; have h3 := HRR.out; omega)
    · intro s i w2 cnt2 hmem hleft hsl hrg2 hlt hf2 hs2 hen
      have HRG2 := Lib.hid hrg2
      have HFW : Hid (Frm [] w w2) := Lib.hid (HFR.out.trans hf2 (fun x hx => .inr (by rw [List.mem_singleton] at hx; rw [hx, HRR.out]; exact Nat.le_refl _)))
      have hn64 := HCN.out
      have h64 := HO.out.few
      have HOW2 := Lib.hid (ownsB_frm HOW.out hf2 (fun k hk hm9 => by
        have h1 := (HOW.out.lt k hk).1
        have h2 := HS1.out
        rw [List.mem_singleton] at hm9
        omega))
      have HNEW : Hid (s ∉ out) := Lib.hid (fun h9 => by have := ((HME.out s).1 h9).2; rw [hleft] at this; cases this)
      have HIN : Hid ((findD m.dir s).isSome = true) := Lib.hid (fst_mem.1 (List.mem_map.2 ⟨_, hmem, rfl⟩))
      have hBw : w1.heap.size ≤ w2.heap.size := by have h2 := HS1.out; omega
      have hal := (RowAt.made w2 9 [str s] #[str s] rfl).cell (i := 0) rfl
      have HAL := Lib.hid hal
      have HBW := Lib.hid hBw
      clear hmem hleft hsl hrg2 hf2 hs2 HRG hal hBw
      go_wp2_with (first | (at_builtin; refine app_str rfl _ _ rfl w1.heap.size N (.slice a3 N c3) out rfl (HOW2.out.alloc _) w2.heap.size s rfl HAL.out (by omega) (by have := HBW.out; simp; omega) ?_; intro a9 c9 w9 hown9 hf9 hloc9) | fail)
      have f89 : Frm (Value.slice a3 N c3).ownBlock.toList w2 w9 := ((Frm.refl _ w2).alloc _).trans hf9 (fun x hx => .inl hx)
      have HF9 : Hid (Frm [] w w9) := Lib.hid (HFW.out.trans f89 (fun x hx => .inr (by
        have h1 := (HOW.out.lt x (by simpa using hx)).1
        have h2 := HS1.out
        have h3 := HRR.out
        omega)))
      have HRG9 : Hid (Rng w9 b1 r bs m.dir (fun z => left z && !z.sameKey (.string s)) cnt2) := Lib.hid (by
        obtain ⟨es, clock, since, seen, c0, h1, h2, h3, h4, h5, h6⟩ := HRG2.out
        have hlr := HRG2.out.lt
        have hlb := HRG2.out.owns.lt
        refine ⟨es, clock, since, seen, c0, ?_, h2, h3, h4, ?_, h6⟩
        · rw [f89.block b1 hlb (fun hm9 => ?_)]
          · exact h1
          · have hb := HM.out.lt
            have h7 := (HOW.out.lt b1 (by simpa using hm9)).1
            have h8 := HS1.out
            have h9 := HRR.out
            omega
        · rw [f89.block r hlr (fun hm9 => ?_)]
          · exact h5
          · have h7 := (HOW.out.lt r (by simpa using hm9)).1
            have h8 := HS1.out
            omega)
      have HO9 := Lib.hid hown9
      clear hown9 hf9 hloc9 f89
      go_wp2_with fail
      go_roundg cnt2
      case rel =>
        refine ⟨_, cnt2, out ++ [s], a9, N + 1, c9, rfl, rfl, HRG9.out, HF9.out, HO9.out, by rw [List.length_append, HLN.out]; rfl, by omega, ?_, fun t => ?_⟩
        · rw [List.nodup_append]
          refine ⟨HND.out, by simp, fun a ha b hb e => ?_⟩
          rw [List.mem_singleton] at hb
          subst hb
          subst e
          exact HNEW.out ha
        · rw [List.mem_append, HME.out t, List.mem_singleton, same_str]
          by_cases e : t = s
          · subst e
            simp [HIN.out]
          · have : (t == s) = false := beq_eq_false_iff_ne.2 e
            simp [e, this]
      case measure => omega

end Go.Proofs.Ytkebdgbjgbcneaa
