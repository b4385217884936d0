/- Texts WG, WP, WQ, WR. -/
import Derived.Test.YtikpcipkkhmcfaaGreatQ47
import Derived.Test.YtikpcipkkhmcfaaGreatQ40
/- Plain: what Of answers; example 1 of chapter 32. -/
namespace Go.Proofs.YtikpcipkkhmcfaaGreat.Beh
open Go.Shelf Go.RowKit Go.Lib Go.Sort Go.Maps Go.Proofs.YtikpcipkkhmcfaaGreat Go.Proofs.YtikpcipkkhmcfaaGreat.Ind

noncomputable def ofRes (l : Lts) (n : Int) : Int × List En := if validB l = true ∧ 0 ≤ n ∧ n ≤ 24 then (match ofL l n.toNat with | none => (10, []) | some st => (0, st.map (·.2))) else (1, [])
theorem beh_nil (w : World) (F : List Nat) : BehAt w F (.slice none 0 0) [] := ⟨[], rfl, RowV.nil0 _ _ _, by simp⟩
theorem OfEnd.res {w w' : World} {F : List Nat} {l : Lts} {n : Int} {e : Ending} (h : OfEnd w F l n e w') : (∃ a c, e = .returned (.tuple #[.slice a (ofRes l n).2.length c, .int .i64 (ofRes l n).1]) ∧ BehAt w' F (.slice a (ofRes l n).2.length c) (ofRes l n).2) ∧ Frm [] w w' := by
  obtain ⟨hf, h⟩ := h
  refine ⟨?_, hf⟩
  unfold ofRes
  split at h
  · rename_i hc
    rw [if_pos hc]
    cases ho : ofL l n.toNat with
    | none =>
      rw [ho] at h
      exact ⟨none, 0, h, beh_nil _ _⟩
    | some st =>
      rw [ho] at h
      obtain ⟨a, c, h1, h2⟩ := h
      refine ⟨a, c, ?_, ?_⟩
      · rw [h1]; simp
      · simpa using h2
  · rename_i hc
    rw [if_neg hc]
    exact ⟨none, 0, h, beh_nil _ _⟩

/-! Example 1. -/
def exS : Lts := [[(2, 1)], []]
def exB : List En := [([], [[2]], false), ([2], [[]], false)]
theorem exS_valid : validB exS = true := by decide
theorem exS_none : ∀ s, Esel exS true s = [] := by
  intro s
  match s with
  | 0 => decide
  | 1 => decide
  | s + 2 => rfl
theorem path_none {E : Nat → List Nat} (h : ∀ s, E s = []) {a b : Nat} (p : Path E a b) : a = b := by
  induction p with
  | refl a => rfl
  | step e _ _ => rw [h] at e; cases e
theorem reach_none {E : Nat → List Nat} (h : ∀ s, E s = []) {fr : List Nat} (ha : fr.Pairwise (· < ·)) : IsReach E fr fr :=
  ⟨ha, fun v => ⟨fun hv => ⟨v, hv, .refl v⟩, fun ⟨s, hs, p⟩ => by rw [← path_none h p]; exact hs⟩⟩
theorem ex_rch : rchN exS [0] = [0] := rch_eq (reach_none exS_none (by simp))
theorem ex_aft : aftN exS [0] 2 = [1] := by
  refine aft_eq (m := [1]) ⟨by simp, fun v => ?_⟩ (reach_none exS_none (by simp))
  have e : Aim exS 2 0 = [1] := by decide
  simp [e]
theorem ex_div (s : List Nat) : divB exS s = false := by
  rw [Bool.eq_false_iff]
  intro h
  obtain ⟨v, _, u, _, t, ht, _⟩ := divB_iff.1 h
  rw [exS_none] at ht
  cases ht
theorem ex_of : ofRes exS 2 = (0, exB) := by
  have h : ofL exS 2 = some [([0], ([], [[2]], false)), ([1], ([2], [[]], false))] := by
    unfold ofL ofB
    rw [ex_rch]
    have e0 : (wkL exS).ent [] [0] = ([], [[2]], false) := by
      show ([], minL (accN exS [0]), divB exS [0]) = _
      rw [ex_div, show minL (accN exS [0]) = [[2]] by decide]
    have e1 : (wkL exS).ent ([] ++ [2]) [1] = ([2], [[]], false) := by
      show ([2], minL (accN exS [1]), divB exS [1]) = _
      rw [ex_div, show minL (accN exS [1]) = [[]] by decide]
    rw [e0, show (16385 : Nat) = 16384 + 1 from rfl, of_step (p := ([0], ([], [[2]], false))) rfl (by decide)]
    have e2 : (wkL exS).ev [0] = [2] := by show evN exS [0] = _; decide
    have e3 : newE (wkL exS) [0] [] 2 = ([1], ([2], [[]], false)) := by
      show (aftN exS [0] 2, (wkL exS).ent ([] ++ [2]) (aftN exS [0] 2)) = _
      rw [ex_aft, e1]
    rw [e2, addL_cons (by decide), e3]
    simp only [addL, Option.bind_some, List.cons_append, List.nil_append, Nat.zero_add]
    rw [show (16384 : Nat) = 16383 + 1 from rfl, of_step (p := ([1], ([2], [[]], false))) rfl (by decide)]
    have e4 : (wkL exS).ev [1] = [] := by show evN exS [1] = _; decide
    rw [e4]
    simp only [addL, Option.bind_some]
    exact of_end (by decide)
  rw [ofRes, if_pos ⟨exS_valid, by omega, by omega⟩]
  show (match ofL exS 2 with | none => _ | some st => _) = _
  rw [h]; rfl
end Go.Proofs.YtikpcipkkhmcfaaGreat.Beh

/- The law's draw and finds. -/
namespace Go.Proofs.YtikpcipkkhmcfaaGreat.Beh
open Go.RowKit Go.Lib Go.Proofs.YtikpcipkkhmcfaaGreat Go.Proofs.YtikpcipkkhmcfaaGreat.Ind

set_option linter.unusedSimpArgs false in
set_option maxRecDepth 100000 in
set_option maxHeartbeats 4000000 in
theorem draw_any (B0 : Nat) (F : List Nat) (w : World) (tv : Value) (a : Option Addr) (cap : Nat) (l : Lts) (n : Int) (h0 : LAt B0 w a cap l) (hF : ∀ k ∈ F, k < w.heap.size) :
    Calls Tryz.prog 17 #[tv, .agg #[.slice a l.length cap], .int .i64 n] w fun e w' => (∃ a' c, e = .returned (.slice a' (ofRes l n).2.length c) ∧ BehAt w' F (.slice a' (ofRes l n).2.length c) (ofRes l n).2) ∧ Frm [] w w' := by
  obtain ⟨R, hR⟩ : ∃ R, R = ofRes l n := ⟨_, rfl⟩
  have HRF : Hid (∀ W, Frm [] w W → Calls Tryz.prog 38 #[.agg #[.slice a l.length cap], .int .i64 n] W fun e w' => (∃ a c, e = .returned (.tuple #[.slice a R.2.length c, .int .i64 R.1]) ∧ BehAt w' F (.slice a R.2.length c) R.2) ∧ Frm [] W w') := Lib.hid fun W hf => by
    rw [hR]
    exact (rof_any B0 F W a cap l n (h0.nil hf rfl) (fun k hk => Nat.lt_of_lt_of_le (hF k hk) hf.size)).mono fun _ _ h => h.res
  rw [← hR]
  have f0 : Frm [] w (w.alloc (.cells #[.slice a l.length cap] 25)) := (Frm.refl [] w).alloc _
  have HF0 := Lib.hid f0
  clear h0 hR f0 hF
  go_enter Tryz.func17, Tryz.ntmps17
  go_wp2_with (first
    | (go_at_call 38; refine (HRF.out _ HF0.out).mono ?_; rintro e2 w2 ⟨⟨a2, c2, rfl, hb2⟩, hf2⟩)
    | fail)
  go_ret
  exact ⟨⟨a2, c2, rfl, hb2⟩, HF0.out.trans hf2 (by simp)⟩
set_option linter.unusedSimpArgs false in
set_option maxRecDepth 100000 in
set_option maxHeartbeats 4000000 in
theorem finds_any {F G : List Nat} (w : World) (v u : Value) (b : List En) (t : List Int) (h1 : BehAt w F v b) (h2 : RowV w G u t.length 1 (ints t)) (hF : ∀ k ∈ F, k < w.heap.size) (hfit : Fits b) :
    Calls Tryz.prog 18 #[v, u] w fun e w' => e = .returned (.bool true) ∧ Frm [] w w' := by
  have hp := find_any w v u b t h1 h2 hF hfit
  have HR : Hid (∀ W, Frm [] w W → Calls Tryz.prog 41 #[v, u] W (FindEnd F b t W)) := Lib.hid fun W hf => refFind_any W v u b t (h1.nil hf) (h2.nil hf)
  unfold FindEnd at hp HR
  clear h1 h2 hF hfit
  cases hx : findE b t with
  | some x =>
    rw [hx] at hp HR
    dsimp only at hp HR
    have HP := Lib.hid hp
    clear hp hx
    go_enter Tryz.func18, Tryz.ntmps18
    go_wp2_with fail
    refine HP.out.mono ?_
    rintro e1 w1 ⟨⟨ta, tc, la, lc, rfl, r1, s1⟩, hf1⟩
    have F1 : Hid (Frm [] w (w1.alloc (.cells #[.slice ta x.1.length tc, .slice la x.2.1.length lc, .bool x.2.2] 69))) := Lib.hid (hf1.alloc _)
    have B1 := Lib.hid (RowAt.made w1 69 [.slice ta x.1.length tc, .slice la x.2.1.length lc, .bool x.2.2] #[.slice ta x.1.length tc, .slice la x.2.1.length lc, .bool x.2.2] rfl)
    have hf0 := (Frm.refl [] w1).alloc (.cells #[.slice ta x.1.length tc, .slice la x.2.1.length lc, .bool x.2.2] 69)
    have R1 := Lib.hid (r1.nil hf0)
    have S1 := Lib.hid (s1.nil hf0)
    clear r1 s1 hf0 hf1
    go_wp2_with fail
    generalize w1.alloc (.cells #[.slice ta x.1.length tc, .slice la x.2.1.length lc, .bool x.2.2] 69) = W1 at *
    generalize w1.heap.size = q1 at *
    refine (HR.out _ F1.out).mono ?_
    rintro e2 w2 ⟨⟨ta2, tc2, la2, lc2, rfl, r2, s2⟩, hf2⟩
    have hf3 := hf2.alloc (.cells #[.slice ta2 x.1.length tc2, .slice la2 x.2.1.length lc2, .bool x.2.2] 69)
    have hf0 := (Frm.refl [] w2).alloc (.cells #[.slice ta2 x.1.length tc2, .slice la2 x.2.1.length lc2, .bool x.2.2] 69)
    have b1 := B1.out.frm hf3 (by simp)
    have x0 := b1.cell (i := 0) rfl
    have x1 := b1.cell (i := 1) rfl
    have x2 := b1.cell (i := 2) rfl
    have HSM := Lib.hid (sameEntry_any _ ((.slice ta x.1.length tc, .slice la x.2.1.length lc), x) ((.slice ta2 x.1.length tc2, .slice la2 x.2.1.length lc2), x) ⟨R1.out.nil hf3, S1.out.nil hf3⟩ ⟨r2.nil hf0, s2.nil hf0⟩)
    have F3 := Lib.hid (F1.out.trans hf3 (by simp))
    clear hf0 hf2 hf3 r2 s2 b1
    go_wp2_with fail
    refine HSM.out.mono ?_
    rintro e4 w4 ⟨he4, hf4⟩
    simp only [decide_true] at he4
    subst he4
    go_wp2_with fail
    go_ret
    exact ⟨rfl, F3.out.trans hf4 (by simp)⟩
  | none =>
    rw [hx] at hp HR
    dsimp only at hp HR
    have HP := Lib.hid hp
    clear hp hx
    go_enter Tryz.func18, Tryz.ntmps18
    go_wp2_with fail
    refine HP.out.mono ?_
    rintro e1 w1 ⟨rfl, hf1⟩
    have F1 : Hid (Frm [] w (w1.alloc (.cells #[.slice none 0 0, .slice none 0 0, .bool false] 69))) := Lib.hid (hf1.alloc _)
    have B1 := Lib.hid (RowAt.made w1 69 [.slice none 0 0, .slice none 0 0, .bool false] #[.slice none 0 0, .slice none 0 0, .bool false] rfl)
    clear hf1
    go_wp2_with fail
    generalize w1.alloc (.cells #[.slice none 0 0, .slice none 0 0, .bool false] 69) = W1 at *
    generalize w1.heap.size = q1 at *
    refine (HR.out _ F1.out).mono ?_
    rintro e2 w2 ⟨rfl, hf2⟩
    have hf3 := hf2.alloc (.cells #[.slice none 0 0, .slice none 0 0, .bool false] 69)
    have b1 := B1.out.frm hf3 (by simp)
    have x0 := b1.cell (i := 0) rfl
    have x1 := b1.cell (i := 1) rfl
    have x2 := b1.cell (i := 2) rfl
    have he : ∀ W : World, EntAt W [] ((.slice none 0 0, .slice none 0 0), ([], [], false)) := fun W => ⟨RowV.nil0 _ _ _, [], rfl, RowV.nil0 _ _ _, fun p hp => (by cases hp)⟩
    have HSM := Lib.hid (sameEntry_any (w2.alloc (.cells #[.slice none 0 0, .slice none 0 0, .bool false] 69)) _ _ (he _) (he _))
    have F3 := Lib.hid (F1.out.trans hf3 (by simp))
    clear hf2 hf3 b1 he
    go_wp2_with fail
    refine HSM.out.mono ?_
    rintro e4 w4 ⟨he4, hf4⟩
    simp only [decide_true] at he4
    subst he4
    go_wp2_with fail
    go_ret
    exact ⟨rfl, F3.out.trans hf4 (by simp)⟩
end Go.Proofs.YtikpcipkkhmcfaaGreat.Beh

/- The reference's Reach and After on rows of states, in short words. -/
namespace Go.Proofs.YtikpcipkkhmcfaaGreat.Beh
open Go.Shelf Go.RowKit Go.Lib Go.Sort Go.Maps Go.Proofs.YtikpcipkkhmcfaaGreat Go.Proofs.YtikpcipkkhmcfaaGreat.Ind

theorem RowV.nilCap {w : World} {F : List Nat} {a : Option Addr} {n m c size : Nat} {xs : List Value} (h : RowV w F (.slice a n c) m size xs) : a = none → c = 0 := by
  intro h9
  obtain ⟨_, a9, c9, e9, _, _, h8, _⟩ := h
  cases e9
  exact h8 h9
theorem reachR_any (B0 : Nat) (a : Option Addr) (cap : Nat) (l : Lts) (F : List Nat) (ua : Option Addr) (uc : Nat) (fs : List Nat) (W : World) (hL : LAt B0 W a cap l) (hv : validB l = true) (hu : RowV W F (.slice ua fs.length uc) fs.length 1 (ints (natI fs))) (hlt : ∀ v ∈ fs, v < l.length) (hne : fs ≠ []) (hn : fs.length ≤ 100000) :
    Calls Tryz.prog 43 #[.agg #[.slice a l.length cap], .slice ua fs.length uc, .bool true] W fun e w' => (∃ (a : Option Addr) (c : Nat) (vs : List Nat), e = .returned (.slice a vs.length c) ∧ w'.ownsRow W.heap.size 3 1 (.slice a vs.length c) vs.length (ints (natI vs)) ∧ Closed l vs ∧ (∀ v ∈ vs, v < l.length) ∧ vs ≠ []) ∧ Frm [] W w' := by
  have h1 := rreach_any B0 a cap l ua uc (natI fs) true W hL (by rw [natI_len]; exact hu.rd) (RowV.nilCap hu) (by rw [natI_len]; omega)
  rw [natI_len] at h1
  refine h1.mono ?_
  rintro e w' ⟨hR, hf⟩
  rw [ReachEnd, if_pos ⟨hv, by
    rw [List.all_eq_true]
    intro x hx
    obtain ⟨v, hv9, rfl⟩ := List.mem_map.1 hx
    rw [inB_iff]
    have := hlt v hv9
    omega⟩] at hR
  obtain ⟨a5, c5, s0, rfl, own5, hir0⟩ := hR
  have hmap : (natI fs).map Int.toNat = fs := by rw [natI, List.map_map]; exact (List.map_congr_left (fun x _ => by simp)).trans (List.map_id _)
  have hir : IsReach (Esel l true) fs s0 := by rw [← hmap]; exact hir0
  refine ⟨⟨a5, c5, s0, rfl, own5, closed_of hir, reach_lt (vlts_of hv) hir hlt, ?_⟩, hf⟩
  obtain ⟨v, hv9⟩ := List.exists_mem_of_ne_nil fs hne
  exact List.ne_nil_of_mem ((hir.mem v).2 ⟨v, hv9, .refl v⟩)
theorem afterR_any (B0 : Nat) (a : Option Addr) (cap : Nat) (l : Lts) (F : List Nat) (ua : Option Addr) (uc : Nat) (fs : List Nat) (ev : Int) (W : World) (hL : LAt B0 W a cap l) (hv : validB l = true) (hu : RowV W F (.slice ua fs.length uc) fs.length 1 (ints (natI fs))) (hlt : ∀ v ∈ fs, v < l.length) (hcl : Closed l fs) (hn : fs.length ≤ 100000) (h1 : 1 ≤ ev) (h2 : ev ≤ 1025) (s : Nat) (hs : s ∈ fs) (row : List Arc) (hrow : l[s]? = some row) (y : Arc) (hy : y ∈ row) (hye : y.1 = ev) :
    Calls Tryz.prog 44 #[.agg #[.slice a l.length cap], .slice ua fs.length uc, .int .i64 ev] W fun e w' => (∃ (a : Option Addr) (c : Nat) (vs : List Nat), e = .returned (.slice a vs.length c) ∧ w'.ownsRow W.heap.size 3 1 (.slice a vs.length c) vs.length (ints (natI vs)) ∧ Closed l vs ∧ (∀ v ∈ vs, v < l.length) ∧ vs ≠ []) ∧ Frm [] W w' := by
  have h3 := raft_any B0 a cap l ua uc (natI fs) ev W hL (by rw [natI_len]; exact hu.rd) (RowV.nilCap hu) (by rw [natI_len]; omega)
  rw [natI_len] at h3
  refine h3.mono ?_
  rintro e w' ⟨⟨a9, c9, n9, xs9, rfl, ho9, hu9⟩, hf9⟩
  have hcond : AftC l (natI fs) ev := ⟨hv, by
    rw [List.all_eq_true]
    intro x hx
    obtain ⟨v, hv9, rfl⟩ := List.mem_map.1 hx
    rw [inB_iff]
    have := hlt v hv9
    omega, by omega, by omega⟩
  obtain ⟨vs, rfl, rfl, haft⟩ := hu9.yes hcond
  have hmap : (natI fs).map Int.toNat = fs := by rw [natI, List.map_map]; exact (List.map_congr_left (fun x _ => by simp)).trans (List.map_id _)
  rw [hmap] at haft
  rcases haft with ⟨h9, _⟩ | ⟨_, c, m, hc, hm, hr⟩
  · omega
  · have hcp : c = fs := hc.unique hcl
    subst hcp
    have hml : ∀ v ∈ m, v < l.length := fun v hv9 => by
      obtain ⟨s, hs, h1⟩ := (hm.mem v).1 hv9
      exact aim_edge (vlts_of hv) s v (hlt s hs) h1
    refine ⟨⟨a9, c9, vs, rfl, ho9, closed_of hr, reach_lt (vlts_of hv) hr hml, ?_⟩, hf9⟩
    have hin : y.2.toNat ∈ m := (hm.mem _).2 ⟨s, hs, (mem_aim hrow).2 ⟨y, hy, hye, rfl⟩⟩
    exact List.ne_nil_of_mem ((hr.mem _).2 ⟨_, hin, .refl _⟩)
end Go.Proofs.YtikpcipkkhmcfaaGreat.Beh

/- The generator's Walk. -/
namespace Go.Proofs.YtikpcipkkhmcfaaGreat.Beh
open Go.Shelf Go.RowKit Go.Lib Go.Sort Go.Maps Go.Proofs.YtikpcipkkhmcfaaGreat Go.Proofs.YtikpcipkkhmcfaaGreat.Ind

/-- A system whose cells stay while the tape turns. -/
def LStab (tb : Nat) (w : World) (a : Option Addr) (l : Lts) : Prop := ∀ (s : Nat) (row : List Arc), l[s]? = some row → ∃ b o ra rc, a = some ⟨b, o, none⟩ ∧ (∀ W, Frm [tb] w W → W.cell? ⟨b, o + s, none⟩ = some (.slice ra row.length rc)) ∧ ∀ (j : Nat) (y : Arc), row[j]? = some y → ∃ rb ro, ra = some ⟨rb, ro, none⟩ ∧ ∀ W, Frm [tb] w W → W.cell? ⟨rb, ro + j * 2, none⟩ = some (.int .i64 y.1)
set_option linter.unusedSimpArgs false in
set_option maxRecDepth 100000 in
set_option maxHeartbeats 8000000 in
theorem walk_any (B tb N n : Nat) (w : World) (a : Option Addr) (cap : Nat) (l : Lts) (h : TapeOk B w tb N) (hB : B ≤ tb) (hN : N ≤ 900000000) (hn : n ≤ 1000) (hv : validB l = true) (hpos : 1 ≤ l.length) (hfew : l.length ≤ 1000) (hrl : ∀ row ∈ l, row.length ≤ 1000) (hL : ∀ W, Frm [tb] w W → LAt w.heap.size W a cap l) (hst : LStab tb w a l) :
    Calls Tryz.prog 19 #[.pointer (some ⟨tb, 0, none⟩), .agg #[.slice a l.length cap], .int .i64 (n : Int)] w (TraceEnd B tb (N + 5000) n w) := by
  have i1 : (n : Int) ≤ 1000 := by omega
  have i2 : (0 : Int) ≤ (n : Int) := by omega
  have hlt := h.lt
  have F0 : Hid (Frm [] w ((w.alloc (.cells #[.slice a l.length cap] 25)).alloc (.cells #[.int .i64 0] 3))) := Lib.hid (((Frm.refl [] w).alloc _).alloc _)
  have HNX := Lib.hid (next_any B tb N ((n : Int) + 1) _ (h.nil F0.out) hB (by omega) (by omega))
  have HB0 := Lib.hid ((RowAt.made w 25 [.slice a l.length cap] #[.slice a l.length cap] rfl).alloc (.cells #[.int .i64 0] 3))
  have hs1 : (w.alloc (.cells #[.slice a l.length cap] 25)).heap.size = w.heap.size + 1 := by simp
  have hz0 := RowAt.made (w.alloc (.cells #[.slice a l.length cap] 25)) 3 [.int .i64 0] #[.int .i64 0] rfl
  rw [hs1] at hz0
  have HZ0 := Lib.hid hz0
  have HV := Lib.hid hv
  have HRL := Lib.hid hrl
  have HL := Lib.hid hL
  have HST := Lib.hid hst
  clear h hs1 hz0 hv hrl hL hst
  go_enter Tryz.func19, Tryz.ntmps19
  go_wp2_with fail
  refine HNX.out.mono ?_
  rintro e5 w5 ⟨⟨v5, rfl, hv5, -⟩, hT5, hf5⟩
  obtain ⟨j1, j2⟩ := hv5 (by omega)
  obtain ⟨m, rfl⟩ : ∃ m : Nat, v5 = (m : Int) := ⟨v5.toNat, by omega⟩
  have HT5 := Lib.hid hT5
  have HF5 : Hid (Frm [tb] w w5) := Lib.hid ((F0.out.mono (by simp)).trans hf5 (fun k hk => .inl hk))
  have HB5 := Lib.hid (HB0.out.frm hf5 (by simp; omega))
  have HZ5 := Lib.hid (HZ0.out.frm hf5 (by simp; omega))
  have hmn : m ≤ n := by omega
  clear hv5 hT5 hf5 j1 j2 HNX HZ0 HB0 F0
  go_wp2_with fail
  go_loopg [7, 8, 9] m (fun q t7 t8 t9 wr => ∃ (k : Nat) (x : List Int) (a7 : Option Addr) (c7 : Nat) (fs : List Nat) (ua : Option Addr) (uc : Nat), q = k ∧ t9 = .int .i64 (k : Int) ∧ t7 = .slice a7 x.length c7 ∧ t8 = .slice ua fs.length uc ∧ x.length + k ≤ n ∧ wr.ownsRow (w.heap.size + 1) 3 1 (.slice a7 x.length c7) x.length (ints x) ∧ RowV wr [tb] (.slice ua fs.length uc) fs.length 1 (ints (natI fs)) ∧ fs ≠ [] ∧ (∀ v ∈ fs, v < l.length) ∧ fs.length ≤ 100000 ∧ TapeOk B wr tb (N + 1 + 2 * (n - k)) ∧ RowAt wr w.heap.size 25 [.slice a l.length cap] ∧ Frm [tb] w wr)
  case atStart => exact ⟨m, [], none, 0, [0], some ⟨w.heap.size + 1, 0, none⟩, 1, rfl, rfl, rfl, rfl, by simpa using hmn, ⟨rfl, .inl ⟨rfl, rfl⟩⟩, rowV_cells (size := 1) HZ5.out rfl (Nat.le_refl _) (by decide) (by simp; omega), by simp, by simp; omega, by simp, HT5.out.mono (by omega), HB5.out, HF5.out⟩
  case round =>
    clear HZ5 HB5 HT5 HF5
    obtain ⟨k, x, a7, c7, fs, ua, uc, hq, rfl, rfl, rfl, hx, hown, hrow, hne, hfl, hfn, hT, hR, hF⟩ := hrel
    have HQ := Lib.hid hq
    have HX := Lib.hid hx
    have HOWN := Lib.hid hown
    have HROW := Lib.hid hrow
    have HF := Lib.hid hF
    have HT := Lib.hid hT
    have HR := Lib.hid hR
    have HFL := Lib.hid hfl
    have HNE := Lib.hid hne
    have hsz := hF.size
    have cH := hR.cell (i := 0) rfl
    by_cases hk : 0 < k
    · obtain ⟨k', rfl⟩ : ∃ k', k = k' + 1 := ⟨k - 1, by omega⟩
      have i4 : (0 : Int) < ((k' + 1 : Nat) : Int) := by omega
      have i5 : ((k' + 1 : Nat) : Int) ≤ 1000 := by omega
      have HRE := Lib.hid (reachR_any w.heap.size a cap l [tb] ua uc fs wr (HL.out _ hF) HV.out hrow hfl hne hfn)
      clear hq hx hown hT hF hk hrow hR hfl hne
      go_wp2_with fail
      refine HRE.out.mono ?_
      rintro e6 w6 ⟨⟨a6, c6, vs, rfl, own6, hcl, hvl, hvne⟩, hf6⟩
      have hvn : vs.length ≤ 1000 := by have := asc_le hcl.asc hvl; omega
      have hvp : 0 < vs.length := List.length_pos_iff.2 hvne
      have HNX := Lib.hid (next_any B tb (N + 1 + 2 * (n - (k' + 1))) (vs.length : Int) w6 (HT.out.nil hf6) hB (by omega) (by omega))
      have HF6 := Lib.hid hf6
      have OWN6 := Lib.hid own6
      have HCL := Lib.hid hcl
      have HVL := Lib.hid hvl
      clear hf6 own6 hcl hvl hvne HRE cH
      go_wp2_with fail
      refine HNX.out.mono ?_
      rintro e7 w7 ⟨⟨v7, rfl, hv7, -⟩, hT7, hf7⟩
      obtain ⟨j1, j2⟩ := hv7 (by omega)
      obtain ⟨i, rfl⟩ : ∃ i : Nat, v7 = (i : Int) := ⟨v7.toNat, by omega⟩
      have HT7 := Lib.hid hT7
      have HF67 : Hid (Frm [tb] wr w7) := Lib.hid ((HF6.out.mono (by simp)).trans hf7 (fun q hq => .inl hq))
      have own7 := ownsB_frm OWN6.out hf7 (fun q hq hm => by have := (OWN6.out.lt q hq).1; simp at hm; omega)
      obtain ⟨g6, cap6, e9, _, _, _, hrow7⟩ := ownsB_some own7 hvp
      obtain ⟨rfl, rfl⟩ : a6 = some ⟨g6, 0, none⟩ ∧ c6 = cap6 := by simpa using e9
      have hi : i < vs.length := by omega
      obtain ⟨s, hs⟩ : ∃ s, vs[i]? = some s := ⟨_, List.getElem?_eq_getElem hi⟩
      have x1 := hrow7.cell (i := i) (v := .int .i64 (s : Int)) (by simp [ints, natI, hs])
      have hsm := List.mem_of_getElem? hs
      have hsl := HVL.out s hsm
      obtain ⟨row, hrw⟩ : ∃ row, l[s]? = some row := ⟨_, List.getElem?_eq_getElem hsl⟩
      obtain ⟨b, o, ra, rc, ea, hst1, hst2⟩ := HST.out s row hrw
      have y1 := hst1 w7 (HF.out.trans HF67.out (fun q hq => .inl hq))
      have hR7 := HR.out.frm HF67.out (by simp; omega)
      have cH := hR7.cell (i := 0) rfl
      subst ea
      have i6 : (i : Int) < (vs.length : Int) := by omega
      have i7 : (s : Int) < (l.length : Int) := by omega
      have i8 : (0 : Int) ≤ (s : Int) := by omega
      have i9 : (0 : Int) ≤ (i : Int) := by omega
      have OWN7 := Lib.hid own7
      have HR7 := Lib.hid hR7
      have HS1 := Lib.hid hst1
      have HS2 := Lib.hid hst2
      have HS := Lib.hid hs
      have HRW := Lib.hid hrw
      have HSM := Lib.hid hsm
      clear hv7 hT7 hf7 own7 e9 hrow7 hs hrw hsm hR7 hst1 hst2 HNX
      by_cases hr0 : row.length = 0
      · have i10 : (row.length : Int) = 0 := by omega
        go_wp2_with fail
        go_roundg k'
        case rel => exact ⟨k', x, a7, c7, fs, ua, uc, rfl, rfl, rfl, rfl, by have := HX.out; omega, ownsB_frm HOWN.out HF67.out (fun q hq hm => by have := (HOWN.out.lt q hq).1; simp at hm; omega), HROW.out.step HF67.out (fun q hq => .inl hq) (fun q hq => .inl hq), HNE.out, HFL.out, hfn, HT7.out.mono (by have := HX.out; omega), HR7.out, HF.out.trans HF67.out (fun q hq => .inl hq)⟩
        case measure => have := HQ.out; omega
      · have i10 : ¬ (row.length : Int) = 0 := by omega
        have i11 : (0 : Int) < (row.length : Int) := by omega
        have hrm := HRL.out row (List.mem_of_getElem? HRW.out)
        have i12 : (row.length : Int) ≤ 1000 := by omega
        go_wp2_with fail
        obtain ⟨y0, hy0⟩ : ∃ y, row[0]? = some y := ⟨_, List.getElem?_eq_getElem (by omega)⟩
        obtain ⟨rb, ro, era, _⟩ := HS2.out 0 y0 hy0
        subst era
        have KP : Hid (∀ W, Frm [tb] w7 W → W.cell? ⟨w.heap.size, 0, none⟩ = some (.slice (some ⟨b, o, none⟩) l.length cap) ∧ W.cell? ⟨b, o + s, none⟩ = some (.slice (some ⟨rb, ro, none⟩) row.length rc) ∧ ∀ (j : Nat) (y : Arc), row[j]? = some y → W.cell? ⟨rb, ro + j * 2, none⟩ = some (.int .i64 y.1)) := Lib.hid fun W hf => by
          have hw := (HF.out.trans HF67.out (fun q hq => .inl hq)).trans hf (fun q hq => .inl hq)
          refine ⟨(HR7.out.frm hf (by simp; omega)).cell (i := 0) rfl, HS1.out W hw, fun j y hy => ?_⟩
          obtain ⟨rb', ro', e9, h9⟩ := HS2.out j y hy
          cases e9
          exact h9 W hw
        clear x1 y1 cH hy0
        refine wp_region_held_drew (S := fun w' => w'.cell? ⟨w.heap.size, 0, none⟩ = some (.slice (some ⟨b, o, none⟩) l.length cap) ∧ w'.cell? ⟨b, o + s, none⟩ = some (.slice (some ⟨rb, ro, none⟩) row.length rc) ∧ ∀ (j : Nat) (y : Arc), row[j]? = some y → w'.cell? ⟨rb, ro + j * 2, none⟩ = some (.int .i64 y.1)) (by kernel_rfl) (KP.out _ (Frm.refl [tb] w7).drew) ?_
        intro hHeld
        refine wpAnyH_take (i := 0) (v := ?_) rfl (by kernel_rfl) (by kernel_rfl) (by kernel_rfl) (fun _ _ _ h => h) (Or.inl ⟨by rfl, ?_⟩) (by assumption) ?_
        rotate_left
        · intro w9 hS9
          try dsimp only at hS9
          go_split_ands
          go_simp
          try with_reducible rfl
        try simp only [Act.put, List.getElem_toArray, List.getElem_cons_succ, List.getElem_cons_zero, List.setIfInBounds_toArray, List.set_cons_zero, List.set_cons_succ]
        refine wpAnyH_take (i := 1) (v := ?_) rfl (by kernel_rfl) (by kernel_rfl) (by kernel_rfl) (fun _ _ _ h => h) (Or.inl ⟨by rfl, ?_⟩) (by assumption) ?_
        rotate_left
        · intro w9 hS9
          try dsimp only at hS9
          go_split_ands
          go_simp
          try with_reducible rfl
        try simp only [Act.put, List.getElem_toArray, List.getElem_cons_succ, List.getElem_cons_zero, List.setIfInBounds_toArray, List.set_cons_zero, List.set_cons_succ]
        refine wpAnyH_take (i := 2) (v := ?_) rfl (by kernel_rfl) (by kernel_rfl) (by kernel_rfl) (fun _ _ _ h => h) (Or.inl ⟨by rfl, ?_⟩) (by assumption) ?_
        rotate_left
        · intro w9 hS9
          try dsimp only at hS9
          go_split_ands
          go_simp
          try with_reducible rfl
        try simp only [Act.put, List.getElem_toArray, List.getElem_cons_succ, List.getElem_cons_zero, List.setIfInBounds_toArray, List.set_cons_zero, List.set_cons_succ]
        refine wpAnyH_take (i := 3) (v := ?_) rfl (by kernel_rfl) (by kernel_rfl) (by kernel_rfl) (fun _ _ _ h => h) (Or.inl ⟨by rfl, ?_⟩) (by assumption) ?_
        rotate_left
        · intro w9 hS9
          try dsimp only at hS9
          go_split_ands
          go_simp
          try with_reducible rfl
        try simp only [Act.put, List.getElem_toArray, List.getElem_cons_succ, List.getElem_cons_zero, List.setIfInBounds_toArray, List.set_cons_zero, List.set_cons_succ]
        refine wpAnyH_take (i := 4) (v := ?_) rfl (by kernel_rfl) (by kernel_rfl) (by kernel_rfl) (fun _ _ _ h => h) (Or.inl ⟨by rfl, ?_⟩) (by assumption) ?_
        rotate_left
        · intro w9 hS9
          try dsimp only at hS9
          go_split_ands
          go_simp
          try with_reducible rfl
        try simp only [Act.put, List.getElem_toArray, List.getElem_cons_succ, List.getElem_cons_zero, List.setIfInBounds_toArray, List.set_cons_zero, List.set_cons_succ]
        refine wpAnyH_take (i := 5) (v := ?_) rfl (by kernel_rfl) (by kernel_rfl) (by kernel_rfl) (fun _ _ _ h => h) (Or.inl ⟨by rfl, ?_⟩) (by assumption) ?_
        rotate_left
        · intro w9 hS9
          try dsimp only at hS9
          go_split_ands
          go_simp
          try with_reducible rfl
        try simp only [Act.put, List.getElem_toArray, List.getElem_cons_succ, List.getElem_cons_zero, List.setIfInBounds_toArray, List.set_cons_zero, List.set_cons_succ]
        refine wpAnyH_take (i := 6) (v := ?_) rfl (by kernel_rfl) (by kernel_rfl) (by kernel_rfl) (fun _ _ _ h => h) (Or.inl ⟨by rfl, ?_⟩) (by assumption) ?_
        rotate_left
        · intro w9 hS9
          try dsimp only at hS9
          go_split_ands
          go_simp
          try with_reducible rfl
        try simp only [Act.put, List.getElem_toArray, List.getElem_cons_succ, List.getElem_cons_zero, List.setIfInBounds_toArray, List.set_cons_zero, List.set_cons_succ]
        refine wpAnyH_take (i := 7) (v := ?_) rfl (by kernel_rfl) (by kernel_rfl) (by kernel_rfl) (fun _ _ _ h => h) (Or.inl ⟨by rfl, ?_⟩) (by assumption) ?_
        rotate_left
        · intro w9 hS9
          try dsimp only at hS9
          go_split_ands
          go_simp
          try with_reducible rfl
        try simp only [Act.put, List.getElem_toArray, List.getElem_cons_succ, List.getElem_cons_zero, List.setIfInBounds_toArray, List.set_cons_zero, List.set_cons_succ]
        refine wpAnyH_take (i := 8) (v := ?_) rfl (by kernel_rfl) (by kernel_rfl) (by kernel_rfl) (fun _ _ _ h => h) (Or.inl ⟨by rfl, ?_⟩) (by assumption) ?_
        rotate_left
        · intro w9 hS9
          try dsimp only at hS9
          go_split_ands
          go_simp
          try with_reducible rfl
        try simp only [Act.put, List.getElem_toArray, List.getElem_cons_succ, List.getElem_cons_zero, List.setIfInBounds_toArray, List.set_cons_zero, List.set_cons_succ]
        refine wpAnyH_take (i := 9) (v := ?_) rfl (by kernel_rfl) (by kernel_rfl) (by kernel_rfl) (fun _ _ _ h => h) (Or.inl ⟨by rfl, ?_⟩) (by assumption) ?_
        rotate_left
        · intro w9 hS9
          try dsimp only at hS9
          go_split_ands
          go_simp
          try with_reducible rfl
        try simp only [Act.put, List.getElem_toArray, List.getElem_cons_succ, List.getElem_cons_zero, List.setIfInBounds_toArray, List.set_cons_zero, List.set_cons_succ]
        refine wpAnyH_take (i := 10) (v := ?_) rfl (by kernel_rfl) (by kernel_rfl) (by kernel_rfl) (fun _ _ _ h => h) (Or.inl ⟨by rfl, ?_⟩) (by assumption) ?_
        rotate_left
        · intro w9 hS9
          try dsimp only at hS9
          go_split_ands
          go_simp
          try with_reducible rfl
        try simp only [Act.put, List.getElem_toArray, List.getElem_cons_succ, List.getElem_cons_zero, List.setIfInBounds_toArray, List.set_cons_zero, List.set_cons_succ]
        refine wpAnyH_take (i := 11) (v := ?_) rfl (by kernel_rfl) (by kernel_rfl) (by kernel_rfl) (fun _ _ _ h => h) (Or.inl ⟨by rfl, ?_⟩) (by assumption) ?_
        rotate_left
        · intro w9 hS9
          try dsimp only at hS9
          go_split_ands
          go_simp
          try with_reducible rfl
        try simp only [Act.put, List.getElem_toArray, List.getElem_cons_succ, List.getElem_cons_zero, List.setIfInBounds_toArray, List.set_cons_zero, List.set_cons_succ]
        refine wpAnyH_ready (rs := [12]) (by kernel_rfl) (by simp) ?_
        refine AllReadyH.cons rfl (fun K hK => ?_) AllReadyH.nil
        go_simp
        refine (next_any B tb (N + 1 + 2 * (n - (k' + 1)) + 1) (row.length : Int) _ (HT7.out.nil (Frm.refl [] w7).drew) hB (by omega) (by omega)).mono ?_
        rintro e8 w8 ⟨⟨v8, rfl, hv8, -⟩, hT8, hf8⟩
        obtain ⟨j3, j4⟩ := hv8 (by omega)
        obtain ⟨jj, rfl⟩ : ∃ jj : Nat, v8 = (jj : Int) := ⟨v8.toNat, by omega⟩
        have F8 := (Frm.refl [tb] w7).drew.trans hf8 (fun q hq => .inl hq)
        obtain ⟨y, hy⟩ : ∃ y, row[jj]? = some y := ⟨_, List.getElem?_eq_getElem (by omega)⟩
        refine hK.out _ _ ?_ (fun hHeld => ?_)
        · exact KP.out _ F8
        clear hK K
        try simp only [Act.put, List.getElem_toArray, List.getElem_cons_succ, List.getElem_cons_zero, List.setIfInBounds_toArray, List.set_cons_zero, List.set_cons_succ]
        refine wpAnyH_take (i := 13) (v := ?_) rfl (by kernel_rfl) (by kernel_rfl) (by kernel_rfl) (fun _ _ _ h => h) (Or.inl ⟨by rfl, ?_⟩) (by assumption) ?_
        rotate_left
        · intro w9 hS9
          try dsimp only at hS9
          go_split_ands
          go_simp
          try with_reducible rfl
        try simp only [Act.put, List.getElem_toArray, List.getElem_cons_succ, List.getElem_cons_zero, List.setIfInBounds_toArray, List.set_cons_zero, List.set_cons_succ]
        refine wpAnyH_take (i := 14) (v := ?_) rfl (by kernel_rfl) (by kernel_rfl) (by kernel_rfl) (fun _ _ _ h => h) (Or.inl ⟨by rfl, ?_⟩) (by assumption) ?_
        rotate_left
        · intro w9 hS9
          try dsimp only at hS9
          go_split_ands
          go_simp
          try with_reducible rfl
        try simp only [Act.put, List.getElem_toArray, List.getElem_cons_succ, List.getElem_cons_zero, List.setIfInBounds_toArray, List.set_cons_zero, List.set_cons_succ]
        refine wpAnyH_take (i := 15) (v := .int .i64 y.1) rfl (by kernel_rfl) (by kernel_rfl) (by kernel_rfl) (fun _ _ _ h => h) (Or.inl ⟨by rfl, ?_⟩) (by assumption) ?_
        · intro w9 hS9
          have hS9' := hS9.2.2 jj y hy
          clear hS9
          go_simp
          try with_reducible rfl
        try simp only [Act.put, List.getElem_toArray, List.getElem_cons_succ, List.getElem_cons_zero, List.setIfInBounds_toArray, List.set_cons_zero, List.set_cons_succ]
        refine wpAnyH_take (i := 16) (v := ?_) rfl (by kernel_rfl) (by kernel_rfl) (by kernel_rfl) (fun _ _ _ h => h) (Or.inl ⟨by rfl, ?_⟩) (by assumption) ?_
        rotate_left
        · intro w9 hS9
          try dsimp only at hS9
          go_split_ands
          go_simp
          try with_reducible rfl
        try simp only [Act.put, List.getElem_toArray, List.getElem_cons_succ, List.getElem_cons_zero, List.setIfInBounds_toArray, List.set_cons_zero, List.set_cons_succ]
        refine wpAnyH_done (by kernel_rfl) ?_ _
        have HF8 : Hid (Frm [tb] wr w8) := Lib.hid (HF67.out.trans F8 (fun q hq => .inl hq))
        have HT8 := Lib.hid hT8
        have HC8 := Lib.hid (KP.out w8 F8).1
        have OWN8 := Lib.hid (ownsB_frm HOWN.out HF8.out (fun q hq hm => by have := (HOWN.out.lt q hq).1; simp at hm; omega))
        have OWNV := Lib.hid (ownsB_frm OWN7.out F8 (fun q hq hm => by have := (OWN7.out.lt q hq).1; have := HF6.out.size; simp at hm; omega))
        have hym := List.mem_of_getElem? hy
        have hyr := ((vlts_of HV.out).row row (List.mem_of_getElem? HRW.out)).ok y.1 y.2 hym
        have HYM := Lib.hid hym
        have j5 : 0 ≤ y.1 := by omega
        have j6 : y.1 ≤ 1025 := by omega
        have cH := HC8.out
        clear hv8 hT8 hf8 hym hyr hy KP F8 hHeld HT7
        by_cases he : y.1 = 0
        · go_wp2_with fail
          go_roundg k'
          case rel => exact ⟨k', x, a7, c7, fs, ua, uc, rfl, rfl, rfl, rfl, by have := HX.out; omega, OWN8.out, HROW.out.step HF8.out (fun q hq => .inl hq) (fun q hq => .inl hq), HNE.out, HFL.out, hfn, HT8.out.mono (by have := HX.out; omega), HR.out.frm HF8.out (by simp; omega), HF.out.trans HF8.out (fun q hq => .inl hq)⟩
          case measure => have := HQ.out; omega
        · go_wp2_with (first | (at_builtin; refine app_rowB rfl (.tmp 57) (.tmp 59) 22 3 _ 1 8 rfl Tryz.underlying22 infoInt rfl (by decide) (w.heap.size + 1) x.length (.slice a7 x.length c7) (ints x) rfl (ownsB_frm OWN8.out ((Frm.refl [] w8).alloc _) (by simp)) _ 1 [.int .i64 y.1] [] rfl (rowV_cells (size := 1) (RowAt.made w8 3 [.int .i64 y.1] #[.int .i64 y.1] rfl) rfl (Nat.le_refl _) (by decide) (by simp)) (by simp [Value.oneCell']) (x.length + 1) rfl (by have := HX.out; omega) (by have := HX.out; omega) (by have := HR.out.lt; have := HF8.out.size; simp; omega) ?_; intro a9 c9 w9 own9 hf9 hl9'; have hR9 := ((HR.out.frm HF8.out (by simp; omega)).alloc (.cells #[.int .i64 y.1] 3)).frm hf9 (fun hm => by have := (OWN8.out.lt _ (by simpa using hm)).1; omega); have cH9 := hR9.cell (i := 0) rfl) | fail)
          have hl9 : (x ++ [y.1]).length = x.length + 1 := by simp
          have gq : ∀ q ∈ (Value.slice a7 x.length c7).ownBlock.toList, w.heap.size + 1 ≤ q ∧ q < wr.heap.size := fun q hq => HOWN.out.lt q (by simpa using hq)
          have HFW9 : Hid (Frm [tb] w w9) := Lib.hid (((HF.out.trans HF8.out (fun q hq => .inl hq)).alloc (.cells #[.int .i64 y.1] 3)).trans hf9 (fun q hq => .inr (by have := (gq q hq).1; omega)))
          have HT9 : Hid (TapeOk B w9 tb (N + 1 + 2 * (n - (k' + 1)) + 1 + 1)) := Lib.hid ((HT8.out.nil ((Frm.refl [] w8).alloc (.cells #[.int .i64 y.1] 3))).frm hf9 (fun q hq => by have := (gq q hq).1; omega) (fun hm => by have := (gq _ hm).1; omega))
          have own9v := ownsB_frm (ownsB_frm OWNV.out ((Frm.refl [] w8).alloc (.cells #[.int .i64 y.1] 3)) (by simp)) hf9 (fun q hq hm => by have := (OWNV.out.lt q hq).1; have := (gq q hm).2; omega)
          have hu9 : RowV w9 [tb] (.slice (some ⟨g6, 0, none⟩) vs.length c6) vs.length 1 (ints (natI vs)) := rowV_of_owns own9v (fun q hq e => by have := (own9v.lt q e).1; have h8 := List.mem_singleton.1 hq; omega)
          have HAF := Lib.hid (afterR_any w.heap.size (some ⟨b, o, none⟩) cap l [tb] (some ⟨g6, 0, none⟩) c6 vs y.1 w9 (HL.out w9 HFW9.out) HV.out hu9 HVL.out HCL.out (by omega) (by omega) j6 s HSM.out row HRW.out y HYM.out rfl)
          have OWN9 : Hid (w9.ownsRow (w.heap.size + 1) 3 1 (.slice a9 (x.length + 1) c9) (x.length + 1) (ints (x ++ [y.1]))) := Lib.hid (by
            rw [ints, List.map_append]
            exact own9)
          have HR9 := Lib.hid hR9
          clear gq own9v hu9 own9 hf9 hl9' hR9
          refine HAF.out.mono ?_
          rintro e10 w10 ⟨⟨a10, c10, zs, rfl, own10, hcl10, hzl, hzne⟩, hf10⟩
          have hzn : zs.length ≤ 100000 := by have := asc_le hcl10.asc hzl; omega
          have hu10 : RowV w10 [tb] (.slice a10 zs.length c10) zs.length 1 (ints (natI zs)) := rowV_of_owns own10 (fun q hq e => by
            have h7 := (own10.lt q e).1
            have h8 := List.mem_singleton.1 hq
            have h9 := HFW9.out.size
            omega)
          go_wp2_with fail
          go_roundg k'
          case rel =>
            refine ⟨k', x ++ [y.1], a9, c9, zs, a10, c10, rfl, rfl, ?_, rfl, by have := HX.out; rw [hl9]; omega, ?_, hu10, hzne, hzl, hzn, (HT9.out.nil hf10).mono (by have := HX.out; omega), HR9.out.frm hf10 (by simp), HFW9.out.trans hf10 (by simp)⟩
            · rw [hl9]
            · rw [hl9]
              exact ownsB_frm OWN9.out hf10 (by simp)
          case measure => have := HQ.out; omega
    · obtain rfl : k = 0 := by omega
      have i4 : ¬ (0 : Int) < ((0 : Nat) : Int) := by omega
      have HT2 := Lib.hid (hT.mono (M := N + 5000) (by omega))
      clear hq hx hown hT hF hk hrow hR hfl hne
      go_wp2_with fail
      go_ret
      exact ⟨a7, c7, x, rfl, by have := HX.out; omega, ownsB_mono HOWN.out (Nat.le_succ _), HT2.out, HF.out⟩
end Go.Proofs.YtikpcipkkhmcfaaGreat.Beh
