/- Contract of Add of the reference. -/
import Derived.Test.YtknfdpkfomlckaaGI
import Derived.Laws.AppendOwnNone
namespace Go.Proofs.Ytknfdpkfomlckaa
open Go.RowKit

def addAt (xs : List Int) (x : Int) : Nat := (xs.takeWhile fun y => decide (y < x)).length
def addI (xs : List Int) (x : Int) : List Int := if xs[addAt xs x]? = some x then xs else xs.take (addAt xs x) ++ x :: xs.drop (addAt xs x)

theorem addAt_le (xs : List Int) (x : Int) : addAt xs x ≤ xs.length := by
  unfold addAt
  exact (List.takeWhile_prefix (l := xs) (fun y => decide (y < x))).length_le
theorem addI_len (xs : List Int) (x : Int) : (addI xs x).length ≤ xs.length + 1 := by
  unfold addI
  split
  · omega
  · have := addAt_le xs x
    simp; omega
theorem addAt_go {xs : List Int} {x : Int} {i : Nat} (h : i ≤ addAt xs x) {y : Int} (hy : xs[i]? = some y) : (y < x → i + 1 ≤ addAt xs x) ∧ (¬ y < x → addAt xs x = i) := by
  induction xs generalizing i with
  | nil => simp at hy
  | cons a r ih =>
    cases i with
    | zero =>
      simp at hy
      subst hy
      unfold addAt
      constructor
      · intro hl; simp [hl]
      · intro hl; simp [hl]
    | succ i =>
      simp at hy
      unfold addAt at h
      by_cases ha : a < x
      · simp only [List.takeWhile_cons, ha, decide_true, if_true, List.length_cons] at h
        have := ih (i := i) (by unfold addAt; omega) hy
        unfold addAt at this ⊢
        simp only [List.takeWhile_cons, ha, decide_true, if_true, List.length_cons]
        constructor
        · intro hl; have := this.1 hl; omega
        · intro hl; have := this.2 hl; omega
      · simp [ha] at h
theorem addI_ne (xs : List Int) (x : Int) : addI xs x ≠ [] := by
  unfold addI
  split
  · rintro rfl
    simp at *
  · simp

theorem takei_src {w w' : World} {g : Nat} {xs : List Int} {fp : List Nat} (h : RowAt w g 3 (ints xs)) (hf : Frm fp w w') (hn : g ∉ fp) (k : Nat) : ∀ (j : Nat) (u : Value), (ints (xs.take k))[j]? = some u → w'.cell? ((⟨g, 0, none⟩ : Addr).add j) = some u := by
  intro j u hu
  rw [Addr.add_lit, Nat.zero_add]
  refine (h.frm hf hn).cell ?_
  rw [ints, List.map_take, List.getElem?_take] at hu
  split at hu
  · exact hu
  · cases hu
theorem dropi_src {w w' : World} {g : Nat} {xs : List Int} {fp : List Nat} (h : RowAt w g 3 (ints xs)) (hf : Frm fp w w') (hn : g ∉ fp) (k : Nat) : ∀ (j : Nat) (u : Value), (ints (xs.drop k))[j]? = some u → w'.cell? ((⟨g, k, none⟩ : Addr).add j) = some u := by
  intro j u hu
  rw [Addr.add_lit]
  refine (h.frm hf hn).cell ?_
  rw [ints, List.map_drop, List.getElem?_drop] at hu
  exact hu
theorem owni_empty (w : World) (B k : Nat) (hk : w.heap.size = k) (hB : B ≤ k) : (w.alloc (.cells #[] 3)).ownsRow B 3 1 (.slice (some ⟨k, 0, none⟩) 0 0) 0 (ints []) := by
  subst hk
  exact World.ownsRow_made w #[] 0 hB (by decide) rfl
theorem OwnI.row {B : Nat} {w : World} {g cap : Nat} {xs : List Int} (h : OwnI B w (some ⟨g, 0, none⟩) cap xs) : RowAt w g 3 (ints xs) := by
  rcases h.2 with ⟨h0, _⟩ | ⟨g', cp', cur, h0, hb, hg, h1, h2, h3, h4⟩
  · cases h0
  · obtain ⟨rfl, rfl⟩ : g = g' ∧ cap = cp' := by simpa using h0
    exact ⟨cur, hg, by simpa [ints] using h4⟩

/-- append of nil to a row of integers that the call has made. -/
theorem wpl_appi_nil {w : World} {ops : Array Oper} {rest : List Oper} {o : Oper} {a : Act} {Q : Exit → Act → World → Prop} (hgd : o.guard = none) (s x : Operand)
    (ho : o.op = .call { callee := .builtin .append, args := #[s, x], argTypes := #[22, 22] })
    (B n : Nat) (v : Value) (xs : List Int) (hs : a.eval s = v) (hown : w.ownsRow B 3 1 v n (ints xs)) (hx : a.eval x = .slice none 0 0)
    (h : ∀ a' cp w', w'.ownsRow B 3 1 (.slice a' n cp) n (ints xs) → (∀ w0 : World, w0.heap.size ≤ B → Frm [] w0 w → Frm [] w0 w') → wpList Try.prog ops Q rest (a.put o.dst (.slice a' n cp)) w') : wpList Try.prog ops Q (o :: rest) a w := by
  obtain ⟨i0, hi, hz0, hz1, hz2⟩ := info_parts infoInt
  obtain ⟨a', cp, rfl, _⟩ := owns_shape (ownsB_mono hown (Nat.zero_le B))
  exact wpList_append_own_none hgd s x 22 ho B 3 i0 1 Try.underlying22 hi _ n (ints xs) hs hown hx (h a' cp w hown (fun _ _ hF => hF))

set_option maxRecDepth 100000 in
set_option maxHeartbeats 2000000 in
theorem add_some (B g cap : Nat) (xs : List Int) (x : Int) (w : World) (hB0 : B ≤ w.heap.size) (h : OwnI B w (some ⟨g, 0, none⟩) cap xs) (hl : xs.length ≤ 1000000) :
    Calls Try.prog 61 #[.slice (some ⟨g, 0, none⟩) xs.length cap, .int .i64 x] w fun e w' => ∃ a cp, e = .returned (.slice a (addI xs x).length cp) ∧ OwnI B w' a cp (addI xs x) ∧ Frm [] w w' := by
  have hrd := rd_of_owns h (Nat.le_refl _)
  have hcap := hrd.le
  have hmax := hrd.max
  have hlen := hrd.lt
  have HROW := Lib.hid h.row
  have HO := Lib.hid h
  clear h hrd
  go_enter Try.func61, Try.ntmps61
  go_wp2_with fail
  go_loopg [5] xs.length (fun q i wr => ∃ (k : Nat), q = xs.length - k ∧ k ≤ addAt xs x ∧ i = .int .i64 k ∧ wr = w)
  case atStart => exact ⟨0, rfl, Nat.zero_le _, rfl, rfl⟩
  case round =>
    obtain ⟨k, rfl, hk, rfl, rfl⟩ := hrel
    have hkl : k ≤ xs.length := Nat.le_trans hk (addAt_le _ _)
    have i2 : (0 : Int) ≤ (k : Int) := by omega
    by_cases hlt : k < xs.length
    · obtain ⟨y, hy⟩ : ∃ z, xs[k]? = some z := ⟨_, List.getElem?_eq_getElem hlt⟩
      have d1 := HROW.out.cell (i := k) (v := .int .i64 y) (by simp [ints, hy])
      have hgo := addAt_go hk hy
      have HY := Lib.hid hy
      have i1 : (k : Int) < (xs.length : Int) := by omega
      have hb1 : decide ((k : Int) < (xs.length : Int)) = true := by simpa using hlt
      clear hy
      by_cases hlt2 : y < x
      · have hk2 := hgo.1 hlt2
        clear hgo
        go_wp2_with fail
        go_roundg (xs.length - (k + 1))
        case rel => exact ⟨k + 1, rfl, hk2, by go_num, rfl⟩
        case measure => omega
      · have hk2 := hgo.2 hlt2
        have hle : x ≤ y := by omega
        have HK2 := Lib.hid hk2
        clear hgo hk2
        by_cases heq : y = x
        · subst heq
          have HINS : Hid (addI xs y = xs) := by
            show addI xs y = xs
            unfold addI
            rw [HK2.out, if_pos HY.out]
          go_wp2_with fail
          go_ret
          rw [HINS.out]
          exact ⟨_, cap, rfl, HO.out, Frm.refl _ _⟩
        · have HINS : Hid (addI xs x = xs.take k ++ x :: xs.drop k) := by
            show addI xs x = _
            unfold addI
            rw [HK2.out, if_neg]
            rw [HY.out]
            intro h9
            simp only [Option.some.injEq] at h9
            exact heq h9
          have hne : (y == x) = false := by simpa using heq
          have hkc : ¬ k = cap := by omega
          have hkt : (xs.take k).length = k := by rw [List.length_take]; omega
          have hkt2 : (xs.take k ++ [x]).length = k + 1 := by rw [List.length_append, hkt]; rfl
          have HKT := Lib.hid hkt
          have HKT2 := Lib.hid hkt2
          clear hkt hkt2 heq
          go_wp2_with (first | (at_builtin; refine wpl_app_int rfl (.tmp 34) (.tmp 37) rfl wr.heap.size 0 k _ [] rfl (owni_empty _ _ wr.heap.size rfl (Nat.le_refl _)) rfl ⟨g, 0, none⟩ k cap (xs.take k) rfl HKT.out (takei_src HROW.out ((Frm.refl [] _).alloc _) (by simp) k) (Nat.zero_add k) (by omega) (by simp) ?_) | (at_builtin; fail))
          intro a6 cp6 w6 hown6 hf6 _
          have G6 := hf6 wr (by simp) ((Frm.refl [] _).alloc _)
          clear hf6
          go_wp2_with (first | (at_builtin; refine wpl_app_int rfl (.tmp 39) (.tmp 41) rfl wr.heap.size k (k + 1) (.slice a6 k cp6) (xs.take k) rfl (hown6.alloc _) HKT.out ⟨w6.heap.size, 0, none⟩ 1 1 [x] rfl rfl (cells_new_int w6 x _) rfl (by omega) (by have := G6.size; simp; omega) ?_) | (at_builtin; fail))
          intro a7 cp7 w7 hown7 hf7 _
          have G7 := hf7 wr (by simp) (G6.alloc _)
          clear hf7 hown6
          go_wp2_with (first | (at_builtin; refine wpl_app_int rfl (.tmp 43) (.tmp 46) rfl wr.heap.size (k + 1) (xs.length + 1) (.slice a7 (k + 1) cp7) (xs.take k ++ [x]) rfl hown7 HKT2.out ⟨g, k, none⟩ (xs.length - k) (cap - k) (xs.drop k) rfl (by rw [List.length_drop]) (dropi_src HROW.out G7 (by simp) k) (by omega) (by omega) (by have := G7.size; omega) ?_) | (at_builtin; fail))
          intro a8 cp8 w8 hown8 hf8 _
          have F8 := hf8 wr (by simp) G7
          clear hf8 hown7
          go_wp2_with fail
          go_ret
          rw [HINS.out]
          have hlen9 : (xs.take k ++ x :: xs.drop k).length = xs.length + 1 := by simp; omega
          exact ⟨a8, cp8, by rw [hlen9]; rfl, by rw [OwnI, hlen9]; first | exact ownsB_mono hown8 hB0 | simpa using ownsB_mono hown8 hB0, F8⟩
    · obtain rfl : k = xs.length := by omega
      have hia : addAt xs x = xs.length := Nat.le_antisymm (addAt_le _ _) hk
      have HINS : Hid (addI xs x = xs ++ [x]) := by
        show addI xs x = _
        unfold addI
        rw [hia, if_neg (by simp)]
        simp
      have hb1 : decide ((xs.length : Int) < (xs.length : Int)) = false := by simp
      have hl9 : (xs ++ [x]).length = xs.length + 1 := by simp
      have HL9 := Lib.hid hl9
      clear hia hk hl9
      by_cases hkc : xs.length = cap
      · have HKC := Lib.hid hkc
        clear hkc
        have hc0 : cap = xs.length := HKC.out.symm
        subst hc0
        go_wp2_with (first | (at_builtin; refine wpl_app_int rfl (.tmp 34) (.tmp 37) rfl wr.heap.size 0 xs.length _ [] rfl (owni_empty _ _ wr.heap.size rfl (Nat.le_refl _)) rfl ⟨g, 0, none⟩ xs.length xs.length xs rfl rfl (fun j u hu => takei_src HROW.out ((Frm.refl [] _).alloc _) (by simp) xs.length j u (by rw [List.take_length]; exact hu)) (Nat.zero_add _) (by omega) (by simp) ?_) | (at_builtin; fail))
        intro a6 cp6 w6 hown6 hf6 _
        have G6 := hf6 wr (by simp) ((Frm.refl [] _).alloc _)
        clear hf6
        go_wp2_with (first | (at_builtin; refine wpl_app_int rfl (.tmp 39) (.tmp 41) rfl wr.heap.size xs.length (xs.length + 1) (.slice a6 xs.length cp6) xs rfl (hown6.alloc _) rfl ⟨w6.heap.size, 0, none⟩ 1 1 [x] rfl rfl (cells_new_int w6 x _) rfl (by omega) (by have := G6.size; simp; omega) ?_) | (at_builtin; fail))
        intro a7 cp7 w7 hown7 hf7 _
        have G7 := hf7 wr (by simp) (G6.alloc _)
        clear hf7 hown6
        go_wp2_with (first | (at_builtin; refine wpl_app_int rfl (.tmp 43) (.tmp 46) rfl wr.heap.size (xs.length + 1) (xs.length + 1) (.slice a7 (xs.length + 1) cp7) (xs ++ [x]) rfl hown7 HL9.out ⟨g, 0, none⟩ 0 0 [] rfl rfl (by intro j u hu; simp [ints] at hu) rfl (by omega) (by have := G7.size; omega) ?_) | (at_builtin; fail))
        intro a8 cp8 w8 hown8 hf8 _
        have F8 := hf8 wr (by simp) G7
        clear hf8 hown7
        go_wp2_with fail
        go_ret
        rw [HINS.out]
        exact ⟨a8, cp8, by rw [HL9.out]; rfl, by rw [OwnI, HL9.out]; first | exact ownsB_mono hown8 hB0 | simpa using ownsB_mono hown8 hB0, F8⟩
      · go_wp2_with (first | (at_builtin; refine wpl_app_int rfl (.tmp 34) (.tmp 37) rfl wr.heap.size 0 xs.length _ [] rfl (owni_empty _ _ wr.heap.size rfl (Nat.le_refl _)) rfl ⟨g, 0, none⟩ xs.length cap xs rfl rfl (fun j u hu => takei_src HROW.out ((Frm.refl [] _).alloc _) (by simp) xs.length j u (by rw [List.take_length]; exact hu)) (Nat.zero_add _) (by omega) (by simp) ?_) | (at_builtin; fail))
        intro a6 cp6 w6 hown6 hf6 _
        have G6 := hf6 wr (by simp) ((Frm.refl [] _).alloc _)
        clear hf6
        go_wp2_with (first | (at_builtin; refine wpl_app_int rfl (.tmp 39) (.tmp 41) rfl wr.heap.size xs.length (xs.length + 1) (.slice a6 xs.length cp6) xs rfl (hown6.alloc _) rfl ⟨w6.heap.size, 0, none⟩ 1 1 [x] rfl rfl (cells_new_int w6 x _) rfl (by omega) (by have := G6.size; simp; omega) ?_) | (at_builtin; fail))
        intro a7 cp7 w7 hown7 hf7 _
        have G7 := hf7 wr (by simp) (G6.alloc _)
        clear hf7 hown6
        go_wp2_with (first | (at_builtin; refine wpl_app_int rfl (.tmp 43) (.tmp 46) rfl wr.heap.size (xs.length + 1) (xs.length + 1) (.slice a7 (xs.length + 1) cp7) (xs ++ [x]) rfl hown7 HL9.out ⟨g, xs.length, none⟩ 0 (cap - xs.length) [] rfl rfl (by intro j u hu; simp [ints] at hu) rfl (by omega) (by have := G7.size; omega) ?_) | (at_builtin; fail))
        intro a8 cp8 w8 hown8 hf8 _
        have F8 := hf8 wr (by simp) G7
        clear hf8 hown7
        go_wp2_with fail
        go_ret
        rw [HINS.out]
        exact ⟨a8, cp8, by rw [HL9.out]; rfl, by rw [OwnI, HL9.out]; first | exact ownsB_mono hown8 hB0 | simpa using ownsB_mono hown8 hB0, F8⟩

set_option maxRecDepth 100000 in
set_option maxHeartbeats 2000000 in
theorem add_nil (B : Nat) (x : Int) (w : World) (hB0 : B ≤ w.heap.size) :
    Calls Try.prog 61 #[.slice none 0 0, .int .i64 x] w fun e w' => ∃ a cp, e = .returned (.slice a 1 cp) ∧ OwnI B w' a cp [x] ∧ Frm [] w w' := by
  go_enter Try.func61, Try.ntmps61
  go_wp2_with fail
  refine wp_loop_rounds 1 ?_
  rw [rounds_succ]
  go_wp2_with (first | (at_builtin; refine wpl_appi_nil rfl (.tmp 34) (.tmp 37) rfl w.heap.size 0 _ [] rfl (owni_empty _ _ w.heap.size rfl (Nat.le_refl _)) rfl ?_) | (at_builtin; fail))
  intro a6 cp6 w6 hown6 hf6
  have G6 := hf6 w (by simp) ((Frm.refl [] _).alloc _)
  clear hf6
  go_wp2_with (first | (at_builtin; refine wpl_app_int rfl (.tmp 39) (.tmp 41) rfl w.heap.size 0 1 (.slice a6 0 cp6) [] rfl (hown6.alloc _) rfl ⟨w6.heap.size, 0, none⟩ 1 1 [x] rfl rfl (cells_new_int w6 x _) rfl (by omega) (by have := G6.size; simp; omega) ?_) | (at_builtin; fail))
  intro a7 cp7 w7 hown7 hf7 _
  have G7 := hf7 w (by simp) (G6.alloc _)
  clear hf7 hown6
  go_wp2_with (first | (at_builtin; refine wpl_appi_nil rfl (.tmp 43) (.tmp 46) rfl w.heap.size 1 (.slice a7 1 cp7) [x] rfl hown7 rfl ?_) | (at_builtin; fail))
  intro a8 cp8 w8 hown8 hf8
  have F8 := hf8 w (by simp) G7
  clear hf8 hown7
  go_wp2_with fail
  go_ret
  exact ⟨a8, cp8, rfl, ownsB_mono hown8 hB0, F8⟩

/-- Add: any row that the call has made. -/
theorem add_any (B : Nat) (a : Option Addr) (cap : Nat) (xs : List Int) (x : Int) (w : World) (hB0 : B ≤ w.heap.size) (h : OwnI B w a cap xs) (hz : xs = [] → a = none ∧ cap = 0) (hl : xs.length ≤ 1000000) :
    Calls Try.prog 61 #[.slice a xs.length cap, .int .i64 x] w fun e w' => ∃ a cp, e = .returned (.slice a (addI xs x).length cp) ∧ OwnI B w' a cp (addI xs x) ∧ Frm [] w w' := by
  by_cases h0 : xs = []
  · obtain ⟨rfl, rfl⟩ := hz h0
    subst h0
    exact add_nil B x w hB0
  · have hpos : 0 < xs.length := List.length_pos_iff.2 h0
    obtain ⟨g, cp, hs, _⟩ := owns_some (ownsB_mono h (Nat.zero_le _)) hpos
    obtain ⟨rfl, rfl⟩ : a = some ⟨g, 0, none⟩ ∧ cap = cp := by simpa using hs
    exact add_some B g cap xs x w hB0 h hl

end Go.Proofs.Ytknfdpkfomlckaa
