/- Contract of Events of a Walker. -/
import Derived.Test.YtikpcipkkhmcfaaGreatQ23
import Derived.Test.YtikpcipkkhmcfaaGreatQ31
namespace Go.Proofs.YtikpcipkkhmcfaaGreat.Beh
open Go.Shelf Go.RowKit Go.Lib Go.Sort Go.Proofs.YtikpcipkkhmcfaaGreat Go.Proofs.YtikpcipkkhmcfaaGreat.Ind

theorem compact_up (zs : List Int) : ∀ m, m ≤ zs.length → Lib.compactUpTo zs.toArray m = compG (zs.take m)
  | 0, _ => rfl
  | m + 1, h => by
    have ih := compact_up zs m (by omega)
    obtain ⟨x, hx⟩ : ∃ x, zs[m]? = some x := ⟨_, List.getElem?_eq_getElem (by omega)⟩
    have hxe : zs.toArray[m]! = x := by
      rw [getElem!_pos _ m (by simpa using (by omega : m < zs.length))]
      have := (List.getElem?_eq_some_iff.1 hx).2
      simpa using this
    rw [Lib.compactUpTo_succ, take_snoc hx, compG_eq_snoc, ih, hxe]
    cases m with
    | zero => simp [Lib.keeps]
    | succ k =>
      obtain ⟨y, hy⟩ : ∃ y, zs[k]? = some y := ⟨_, List.getElem?_eq_getElem (by omega)⟩
      have hye : zs.toArray[k]! = y := by
        rw [getElem!_pos _ k (by simpa using (by omega : k < zs.length))]
        have := (List.getElem?_eq_some_iff.1 hy).2
        simpa using this
      have hl : (zs.take (k + 1)).getLast? = some y := by rw [take_snoc hy]; simp
      rw [hl]
      by_cases e : y = x
      · subst e
        rw [if_neg (by simp [Lib.keeps, hxe, hye]), if_pos rfl, List.append_nil]
      · rw [if_pos (by simp only [Lib.keeps, hxe, Nat.add_sub_cancel, hye]; simp; exact fun h => e h.symm), if_neg (fun h => e (by cases h; rfl))]
theorem compact_eq (zs : List Int) : Lib.compact zs = compG zs := by
  have := compact_up zs zs.length (Nat.le_refl _)
  rw [List.take_length] at this
  exact this
theorem compG_le {α : Type} [DecidableEq α] : ∀ (l : List α), (compG l).length ≤ l.length
  | [] => by simp [compG]
  | [a] => by simp [compG]
  | a :: b :: r => by
    have ih := compG_le (b :: r)
    rw [compG]
    split
    · simp only [List.length_cons] at *; omega
    · simp only [List.length_cons] at *; omega
def CpIEnd (w : World) (B : Nat) (a : Option Addr) (cap n : Nat) (xs : List Int) (e : Ending) (w' : World) : Prop :=
  e = .returned (.slice a (compG xs).length cap) ∧ w'.ownsRow B 3 1 (.slice a (compG xs).length cap) (compG xs).length (ints (compG xs)) ∧ Frm (Value.slice a n cap).ownBlock.toList w w'
theorem sortI_any (B : Nat) (a : Option Addr) (cap n : Nat) (xs : List Int) (w : World) (h : w.ownsRow B 3 1 (.slice a n cap) n (ints xs)) (hn : n < 4611686018427387904) :
    Calls Tryz.prog 90 #[.slice a n cap] w fun e w' => (e = .returned (.tuple #[]) ∧ w'.ownsRow B 3 1 (.slice a n cap) n (ints (xs.mergeSort fun x y => decide (x ≤ y)))) ∧ Frm (Value.slice a n cap).ownBlock.toList w w' := by
  have hl : xs.length = n := by have := h.1; rw [ints_len] at this; omega
  subst hl
  rcases h.2 with ⟨h0, h1⟩ | ⟨g, cp, cur, h0, hb, hg, h1, h2, h3, h4⟩
  · have hx : xs = [] := List.eq_nil_of_length_eq_zero h1
    subst hx
    refine (Tryz.slices_Sort_int_none a cap w).mono ?_
    rintro e w' ⟨rfl, rfl⟩
    refine ⟨⟨rfl, ?_⟩, Frm.refl _ _⟩
    rw [List.mergeSort_nil]
    exact h
  · obtain ⟨rfl, rfl⟩ : a = some ⟨g, 0, none⟩ ∧ cap = cp := by simpa using h0
    rw [Nat.mul_one] at h4
    refine (Tryz.slices_Sort_int g 0 cap xs w (holds_of_blockI hg h4) (Array.getElem?_eq_some_iff.1 hg).1 hn).mono ?_
    rintro e w' ⟨rfl, k, os, rfl⟩
    refine ⟨⟨rfl, ?_⟩, ?_⟩
    · exact ownsRow_sortedI (List.length_mergeSort _) hb hg h1 h2 h3
    · exact (Frm.refl _ w).grown (grownBy_sortedI _) (fun q hq => .inl (by simpa [Value.ownBlock] using hq.symm))
theorem compactI_any (B : Nat) (a : Option Addr) (cap n : Nat) (xs : List Int) (w : World) (h : w.ownsRow B 3 1 (.slice a n cap) n (ints xs)) (hn : n < 4611686018427387904) :
    Calls Tryz.prog 92 #[.slice a n cap] w (CpIEnd w B a cap n xs) := by
  have hl : xs.length = n := by have := h.1; rw [ints_len] at this; omega
  subst hl
  by_cases hx : xs = []
  · subst hx
    refine (Tryz.slices_Compact_int_empty a cap w).mono ?_
    rintro e w' ⟨rfl, rfl⟩
    exact ⟨rfl, h, Frm.refl _ _⟩
  · have h0 : 0 < xs.length := List.length_pos_iff.2 hx
    rcases h.2 with ⟨_, h1⟩ | ⟨g, cp, cur, e0, hb, hg, h1, h2, h3, h4⟩
    · omega
    · obtain ⟨rfl, rfl⟩ : a = some ⟨g, 0, none⟩ ∧ cap = cp := by simpa using e0
      rw [Nat.mul_one] at h4
      have hle : (compG xs).length ≤ xs.length := compG_le xs
      refine (Tryz.slices_Compact_int g 0 cap xs w (holds_of_blockI hg h4) (by omega) h1).mono ?_
      rintro e w' ⟨rfl, q, rfl⟩
      rw [compact_eq]
      have hw : putRow (Value.int .i64) (Sort.ahead w q) g 0 (compG xs ++ List.replicate (xs.length - (compG xs).length) 0).toArray = sortWorld (Value.int .i64) w g 0 q (compG xs ++ List.replicate (xs.length - (compG xs).length) 0).toArray #[] := by
        unfold sortWorld
        rw [grow_empty]
      rw [hw]
      refine ⟨rfl, ?_, ?_⟩
      · have h5 := owns_sortedE (enc := Value.int .i64) (w := w) (m := q) (os := #[]) (cap := cap) (n := xs.length) (compG xs ++ List.replicate (xs.length - (compG xs).length) 0) (by simp; omega) hb hg h1 h2 h3
        have h6 := owns_cut h5 hle h0
        rw [Nat.mul_one, List.map_append, List.take_left' (by simp)] at h6
        exact h6
      · have h9 : Frm [g] w (sortWorld (Value.int .i64) w g 0 q (compG xs ++ List.replicate (xs.length - (compG xs).length) 0).toArray #[]) := frm_sortedE _
        exact h9
theorem sorted_set (xs : List Int) : compG (xs.mergeSort fun x y => decide (x ≤ y)) = setG (fun a b : Int => decide (a < b)) xs := by
  have hs : (xs.mergeSort fun x y => decide (x ≤ y)).Pairwise (fun x y => decide (y < x) = false) :=
    (List.pairwise_mergeSort (le := fun x y : Int => decide (x ≤ y)) (fun a b c h1 h2 => by simp at *; omega) (fun a b => by simp; omega) xs).imp (fun h => by simp at *; omega)
  refine asc_uniq sto_int (asc_compG sto_int hs) (setG_asc sto_int xs) (fun x => ?_)
  rw [mem_compG, mem_setG sto_int]
  exact (List.mergeSort_perm xs _).mem_iff

/-! The walk. -/
def EvEnd (B : Nat) (l : Lts) (fr : List Nat) (w' : World) (e : Ending) : Prop :=
  ∃ (a : Option Addr) (c : Nat), e = .returned (.slice a (evN l fr).length c) ∧ w'.ownsRow B 3 1 (.slice a (evN l fr).length c) (evN l fr).length (ints (evN l fr))
theorem visL_snoc {l : Lts} {fr : List Nat} {i c : Nat} {row : List Arc} (h : fr[i]? = some c) (hr : l[c]? = some row) : visL l (fr.take (i + 1)) = visL l (fr.take i) ++ visR row := by
  rw [take_snoc h, visL, visL, List.flatMap_append, List.flatMap_cons, List.flatMap_nil, List.append_nil, List.getD_eq_getElem?_getD, hr]; rfl
theorem visR_snoc {row : List Arc} {j : Nat} {e t : Int} (h : row[j]? = some (e, t)) : visR (row.take (j + 1)) = if e = 0 then visR (row.take j) else visR (row.take j) ++ [e] := by
  rw [take_snoc h, visR, visR, List.filter_append, List.map_append]
  by_cases he : e = 0 <;> simp [he]
theorem visR_len (row : List Arc) : (visR row).length ≤ row.length := by
  rw [visR, List.length_map]; exact List.length_filter_le _ _
theorem visL_len {l : Lts} (hv : VLts l) : ∀ (fr : List Nat), (visL l fr).length ≤ fr.length * 262144
  | [] => by simp [visL]
  | v :: r => by
    have ih := visL_len hv r
    have h1 := visR_len (l.getD v [])
    have h2 := (row_ok hv v).few
    rw [visL, List.flatMap_cons, List.length_append, List.length_cons]
    rw [visL] at ih
    omega
set_option linter.unusedSimpArgs false in
set_option maxRecDepth 100000 in
set_option maxHeartbeats 4000000 in
theorem wev_any (B wb gs : Nat) (a : Option Addr) (cap : Nat) (l : Lts) (r : Nat) (seen0 : List Int) (fa : Option Addr) (fc : Nat) (fr : List Nat) (w : World) (hv : validB l = true) (hw : WkAt B w wb gs a cap l.length r seen0)
    (h0 : LAt B w a cap l) (hf0 : Rd w.heap.size w fa fr.length fc 1 (ints (natI fr))) (hfl : ∀ v ∈ fr, v < l.length) (hfn : fr.length ≤ 16384) :
    Calls Tryz.prog 59 #[.pointer (some ⟨wb, 0, none⟩), .slice fa fr.length fc] w fun e w' => EvEnd w.heap.size l fr w' e ∧ Frm [] w w' := by
  have HL0 := Lib.hid h0
  have HF0 := Lib.hid hf0
  have HFL := Lib.hid hfl
  have hV := vlts_of hv
  have HV := Lib.hid hV
  have hfew := hV.few
  have i2 : (l.length : Int) ≤ 16384 := by omega
  have hfrl := hf0.lt
  have c0 := hw.row.cell (i := 0) rfl
  have C0 := Lib.hid c0
  clear h0 hf0 hfl hw hv hV c0
  go_enter Tryz.func59, Tryz.ntmps59
  go_wp2_with fail
  go_loopg [5, 12] fr.length (fun q s5 s12 wr => ∃ (i : Nat) (a5 : Option Addr) (c5 : Nat), q = fr.length - i ∧ i ≤ fr.length ∧ s12 = .int .i64 (i : Int) ∧ s5 = .slice a5 (visL l (fr.take i)).length c5 ∧ Sep w wr [ownC 3 1 (.slice a5 (visL l (fr.take i)).length c5) (visL l (fr.take i)).length (ints (visL l (fr.take i)))])
  case atStart => exact ⟨0, none, 0, rfl, Nat.zero_le _, rfl, rfl, (Sep.start w).add (ownC 3 1 (.slice none 0 0) 0 []) (Frm.refl _ _) (ownC_nil _ _ _) (by simp [ownC, Value.ownBlock])⟩
  case round =>
    obtain ⟨i, a5, c5, hq, hi, rfl, rfl, hS⟩ := hrel
    have HQ := Lib.hid hq
    have S := Lib.hid hS
    have i4 : (0 : Int) ≤ (i : Int) := by omega
    have hvl := visL_len HV.out (fr.take i)
    rw [List.length_take, Nat.min_eq_left hi] at hvl
    clear hq hS
    by_cases hil : i < fr.length
    · have i5 : (i : Int) < (fr.length : Int) := by omega
      obtain ⟨c, hc⟩ : ∃ c, fr[i]? = some c := ⟨_, List.getElem?_eq_getElem hil⟩
      have hcl := HFL.out c (List.mem_of_getElem? hc)
      obtain ⟨fb, fo, rfl, hfb, cf0⟩ := HF0.out.at (natI_get hc)
      have cf := S.out.frm.cell cf0 (by simp)
      obtain ⟨row, hrow⟩ : ∃ row, l[c]? = some row := ⟨_, List.getElem?_eq_getElem hcl⟩
      obtain ⟨bl, ol, ra, rc, hla, hblB, q1, hrr⟩ := HL0.out.cell c row hrow
      have hla' := hla
      subst hla'
      have hfewr := (HV.out.row row (List.mem_of_getElem? hrow)).few
      have q2 := S.out.frm.cell q1 (by simp)
      have HRR := Lib.hid hrr
      have i6 : (row.length : Int) ≤ 262144 := by omega
      have i7 : (0 : Int) ≤ (c : Int) := by omega
      have i8 : (c : Int) < (l.length : Int) := by omega
      have b0 := S.out.frm.cell C0.out (by simp)
      have HSN := Lib.hid (visL_snoc hc hrow)
      obtain ⟨V, hV⟩ : ∃ V, V = visL l (fr.take i) := ⟨_, rfl⟩
      rw [← hV] at S hvl HSN ⊢
      have HV9 := Lib.hid hV
      clear hc hrow hrr q1 hla cf0 hV
      go_wp2_with fail
      go_loopg [5, 25] row.length (fun q s5 s25 wr => ∃ (j : Nat) (a5 : Option Addr) (c5 : Nat), q = row.length - j ∧ j ≤ row.length ∧ s25 = .int .i64 (j : Int) ∧ s5 = .slice a5 (V ++ visR (row.take j)).length c5 ∧ Sep w wr [ownC 3 1 (.slice a5 (V ++ visR (row.take j)).length c5) (V ++ visR (row.take j)).length (ints (V ++ visR (row.take j)))])
      case atStart => exact ⟨0, a5, c5, rfl, Nat.zero_le _, rfl, by rw [List.take_zero, visR, List.filter_nil, List.map_nil, List.append_nil], by rw [List.take_zero, visR, List.filter_nil, List.map_nil, List.append_nil]; exact S.out⟩
      case round =>
        clear S q2 b0 cf
        obtain ⟨j, a6, c6, hq2, hj, rfl, rfl, hS⟩ := hrel
        have HQ2 := Lib.hid hq2
        have S := Lib.hid hS
        have i9 : (0 : Int) ≤ (j : Int) := by omega
        clear hq2 hS
        by_cases hjl : j < row.length
        · have i10 : (j : Int) < (row.length : Int) := by omega
          obtain ⟨⟨e, t⟩, harc⟩ : ∃ y, row[j]? = some y := ⟨_, List.getElem?_eq_getElem hjl⟩
          obtain ⟨g3, o3, rfl, hg3, p1, p2⟩ := HRR.out.2.2.2 j e t harc
          have d1 := S.out.frm.cell p1 (by simp)
          have d2 := S.out.frm.cell p2 (by simp)
          have n1 := World.block_lt_of_cell? _ _ d1
          simp only at n1
          have HSR := Lib.hid (visR_snoc harc)
          have hrl := visR_len (row.take j)
          rw [List.length_take, Nat.min_eq_left hj] at hrl
          obtain ⟨m, hm⟩ : ∃ m, m = (V ++ visR (row.take j)).length := ⟨_, rfl⟩
          have hmb : m ≤ 4831838208 := by rw [hm, List.length_append]; omega
          rw [← hm] at S ⊢
          have HM := Lib.hid hm
          have S2 := Lib.hid (S.out.nil ((Frm.refl [] wr).alloc (.cells #[.int .i64 e, .int .i64 t] 66)))
          clear harc p1 p2 hrl hm
          by_cases he : e = 0
          · subst he
            have hsr := HSR.out
            rw [if_pos rfl] at hsr
            have HR := Lib.hid hsr
            clear hsr
            go_wp2_with fail
            go_roundg (row.length - (j + 1))
            case rel =>
              refine ⟨j + 1, a6, c6, rfl, hjl, by go_num, ?_, ?_⟩
              · rw [HR.out, ← HM.out]
              · rw [HR.out, ← HM.out]; exact S2.out
            case measure => have := HQ2.out; omega
          · have jn : (e != 0) = true := by simpa using he
            have hsr := HSR.out
            rw [if_neg he] at hsr
            have HR := Lib.hid hsr
            clear hsr he
            go_wp2_with (first
              | (at_builtin; refine app_rowB rfl (.tmp 32) (.tmp 35) 22 3 _ 1 8 rfl Tryz.underlying22 infoInt rfl (by decide) 0 m (.slice a6 m c6) (ints (V ++ visR (row.take j))) rfl ((S2.out.nil ((Frm.refl [] _).alloc (.cells #[.int .i64 e] 3))).at_ 0 rfl) _ 1 [.int .i64 e] [] rfl (rowV_cells (size := 1) (row_made1 wr (.cells #[.int .i64 e, .int .i64 t] 66) 3 [.int .i64 e] #[.int .i64 e] rfl) rfl (Nat.le_refl _) (by decide) (by simp)) (by simp [Value.oneCell']) (m + 1) rfl (by omega) (by omega) (Nat.zero_le _) ?_; intro a11 c11 w11 own11 hf11 hb11; have S11 := Lib.hid ((S2.out.nil ((Frm.refl [] _).alloc (.cells #[.int .i64 e] 3))).step 0 (ownC 3 1 (.slice a11 (m + 1) c11) (m + 1) (ints (V ++ visR (row.take j)) ++ [Value.int .i64 e])) rfl hf11 (fun k hk => .inl hk) own11 (fresh_own hb11)); clear own11 hf11 hb11)
              | fail)
            go_roundg (row.length - (j + 1))
            case rel =>
              have e9 : ints (V ++ visR (row.take (j + 1))) = ints (V ++ visR (row.take j)) ++ [.int .i64 e] := by
                rw [HR.out, ← List.append_assoc, ints, ints, List.map_append]; rfl
              have e8 : (V ++ visR (row.take (j + 1))).length = m + 1 := by
                rw [HR.out, ← List.append_assoc, List.length_append, ← HM.out]; rfl
              refine ⟨j + 1, a11, c11, rfl, hjl, by go_num, ?_, ?_⟩
              · rw [e8]
              · rw [e8, e9]; exact S11.out
            case measure => have := HQ2.out; omega
        · have i10 : ¬ (j : Int) < (row.length : Int) := by omega
          have htk : row.take j = row := List.take_of_length_le (by omega)
          rw [htk, ← HSN.out] at S ⊢
          go_wp2_with fail
          go_roundg (fr.length - (i + 1))
          case rel => exact ⟨i + 1, a6, c6, rfl, hil, by go_num, rfl, S.out⟩
          case measure => have := HQ.out; omega
    · have i5 : ¬ (i : Int) < (fr.length : Int) := by omega
      have htk : fr.take i = fr := List.take_of_length_le (by omega)
      rw [htk] at S hvl ⊢
      obtain ⟨m, hm⟩ : ∃ m, m = (visL l fr).length := ⟨_, rfl⟩
      rw [← hm] at S hvl ⊢
      have hown : wr.ownsRow w.heap.size 3 1 (.slice a5 m c5) m (ints (visL l fr)) := by
        have h1 := S.out.at_ 0 rfl
        refine ownsB_raise h1 (fun k hk => S.out.le 0 rfl (by simp [ownC, hk]))
      have hso := sortI_any w.heap.size a5 c5 m (visL l fr) wr hown (by omega)
      obtain ⟨X, hX⟩ : ∃ X, X = (visL l fr).mergeSort fun x y => decide (x ≤ y) := ⟨_, rfl⟩
      rw [← hX] at hso
      have HX := Lib.hid hX
      have HSO := Lib.hid hso
      have HFR := Lib.hid S.out.frm
      have HEV : Hid (compG ((visL l fr).mergeSort fun x y => decide (x ≤ y)) = evN l fr) := Lib.hid (sorted_set _)
      have HGE : Hid (∀ k ∈ (Value.slice a5 m c5).ownBlock.toList, w.heap.size ≤ k) := Lib.hid fun k hk => (hown.lt k (by simpa using hk)).1
      have HM := Lib.hid hm
      clear hso hown htk S hX hm
      go_wp2_with fail
      refine HSO.out.mono ?_
      rintro e6 w6 ⟨⟨rfl, own6⟩, hf6⟩
      have hcp := compactI_any w.heap.size a5 c5 m _ w6 own6 (by omega)
      unfold CpIEnd at hcp
      rw [HX.out, HEV.out] at hcp
      have HCP := Lib.hid hcp
      have HF6 := Lib.hid (HFR.out.trans hf6 (fun k hk => .inr (HGE.out k hk)))
      clear hcp own6 hf6 HSO
      go_wp2_with fail
      refine HCP.out.mono ?_
      rintro e7 w7 ⟨rfl, own7, hf7⟩
      go_wp2_with fail
      go_ret
      exact ⟨⟨a5, c5, rfl, own7⟩, HF6.out.trans hf7 (fun k hk => .inr (HGE.out k hk))⟩
end Go.Proofs.YtikpcipkkhmcfaaGreat.Beh
