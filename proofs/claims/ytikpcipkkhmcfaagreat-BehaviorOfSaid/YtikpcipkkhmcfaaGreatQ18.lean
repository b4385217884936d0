/- Texts V6, VB. -/
import Derived.Test.YtikpcipkkhmcfaaGreatQ02
import Derived.Test.YtikpcipkkhmcfaaGreatQ00
/- Behaviors in memory, only read. No function of the program. -/
namespace Go.Proofs.YtikpcipkkhmcfaaGreat.Beh
open Go.RowKit Go.Proofs.YtikpcipkkhmcfaaGreat

/-- Sets of numbers. -/
def SetsAt (w : World) (F : List Nat) (v : Value) (l : List (List Int)) : Prop :=
  ∃ ps : List (Value × List Int), ps.map (·.2) = l ∧ RowV w F v l.length 1 (ps.map (·.1)) ∧ ∀ p ∈ ps, RowV w F p.1 p.2.length 1 (ints p.2)
/-- The values of an entry's trace and acceptances, and the entry. -/
abbrev EV := (Value × Value) × En
def enE (p : EV) : List Value := [p.1.1, p.1.2, .bool p.2.2.2]
def EntAt (w : World) (F : List Nat) (p : EV) : Prop := RowV w F p.1.1 p.2.1.length 1 (ints p.2.1) ∧ SetsAt w F p.1.2 p.2.2.1
/-- A behavior. -/
def BehAt (w : World) (F : List Nat) (v : Value) (b : List En) : Prop :=
  ∃ ps : List EV, ps.map (·.2) = b ∧ RowV w F v b.length 3 (ps.flatMap enE) ∧ ∀ p ∈ ps, EntAt w F p
theorem flat3_get : ∀ {l : List EV} {i : Nat} {p : EV}, l[i]? = some p → ∀ j, j < 3 → (l.flatMap enE)[i * 3 + j]? = (enE p)[j]?
  | [], i, p, h, j, hj => by simp at h
  | q :: r, 0, p, h, j, hj => by
    simp only [List.getElem?_cons_zero, Option.some.injEq] at h
    subst h
    rw [List.flatMap_cons, Nat.zero_mul, Nat.zero_add, List.getElem?_append_left (by simp [enE]; omega)]
  | q :: r, i + 1, p, h, j, hj => by
    rw [List.getElem?_cons_succ] at h
    rw [List.flatMap_cons, List.getElem?_append_right (by simp [enE]; omega), show (i + 1) * 3 + j - (enE q).length = i * 3 + j by simp [enE]; omega]
    exact flat3_get h j hj
section
variable {w w' : World} {F F' fp : List Nat} {v : Value} {l : List (List Int)} {p : EV} {b : List En}
theorem SetsAt.step (h : SetsAt w F v l) (hf : Frm fp w w') (hn : ∀ k ∈ fp, k ∈ F ∨ w.heap.size ≤ k) (hF : ∀ k ∈ F', k ∈ F ∨ w.heap.size ≤ k) : SetsAt w' F' v l := by
  obtain ⟨ps, h1, h2, h3⟩ := h
  exact ⟨ps, h1, h2.step hf hn hF, fun p hp => (h3 p hp).step hf hn hF⟩
theorem SetsAt.nil (h : SetsAt w F v l) (hf : Frm [] w w') : SetsAt w' F v l := h.step hf (by simp) (fun _ hk => .inl hk)
theorem EntAt.step (h : EntAt w F p) (hf : Frm fp w w') (hn : ∀ k ∈ fp, k ∈ F ∨ w.heap.size ≤ k) (hF : ∀ k ∈ F', k ∈ F ∨ w.heap.size ≤ k) : EntAt w' F' p := ⟨h.1.step hf hn hF, h.2.step hf hn hF⟩
theorem EntAt.nil (h : EntAt w F p) (hf : Frm [] w w') : EntAt w' F p := h.step hf (by simp) (fun _ hk => .inl hk)
theorem BehAt.step (h : BehAt w F v b) (hf : Frm fp w w') (hn : ∀ k ∈ fp, k ∈ F ∨ w.heap.size ≤ k) (hF : ∀ k ∈ F', k ∈ F ∨ w.heap.size ≤ k) : BehAt w' F' v b := by
  obtain ⟨ps, h1, h2, h3⟩ := h
  exact ⟨ps, h1, h2.step hf hn hF, fun p hp => (h3 p hp).step hf hn hF⟩
theorem BehAt.nil (h : BehAt w F v b) (hf : Frm [] w w') : BehAt w' F v b := h.step hf (by simp) (fun _ hk => .inl hk)
theorem SetsAt.shape (h : SetsAt w F v l) : ∃ a c, v = .slice a l.length c := by
  obtain ⟨_, _, h2, _⟩ := h
  exact h2.shape
theorem BehAt.shape (h : BehAt w F v b) : ∃ a c, v = .slice a b.length c := by
  obtain ⟨_, _, h2, _⟩ := h
  exact h2.shape
theorem EntAt.shape (h : EntAt w F p) : ∃ ta tc aa ac, p.1 = (.slice ta p.2.1.length tc, .slice aa p.2.2.1.length ac) := by
  obtain ⟨ta, tc, h1⟩ := h.1.shape
  obtain ⟨aa, ac, h2⟩ := h.2.shape
  exact ⟨ta, tc, aa, ac, Prod.ext h1 h2⟩
/-- Set i. -/
theorem SetsAt.at_ (h : SetsAt w F v l) {i : Nat} {x : List Int} (hx : l[i]? = some x) : ∃ bk o c xa xc, v = .slice (some ⟨bk, o, none⟩) l.length c ∧ w.cell? ⟨bk, o + i, none⟩ = some (.slice xa x.length xc) ∧ RowV w F (.slice xa x.length xc) x.length 1 (ints x) := by
  obtain ⟨ps, h1, h2, h3⟩ := h
  rw [← h1, List.getElem?_map] at hx
  obtain ⟨p, hp, rfl⟩ := Option.map_eq_some_iff.1 hx
  have hr := h3 p (List.mem_of_getElem? hp)
  obtain ⟨xa, xc, e⟩ := hr.shape
  obtain ⟨_, a, c, e1, _, _, _, hc⟩ := h2
  obtain ⟨bk, o, e2, _, _, hcell⟩ := hc i p.1 (by rw [List.getElem?_map, hp]; rfl)
  subst e2
  rw [e] at hcell hr
  exact ⟨bk, o, c, xa, xc, e1, hcell, hr⟩
/-- Entry i: its cells. -/
theorem BehAt.at_ (h : BehAt w F v b) {i : Nat} {x : En} (hx : b[i]? = some x) : ∃ bk o c ta tc aa ac, v = .slice (some ⟨bk, o, none⟩) b.length c ∧ w.cell? ⟨bk, o + i * 3, none⟩ = some (.slice ta x.1.length tc) ∧ w.cell? ⟨bk, o + (i * 3 + 1), none⟩ = some (.slice aa x.2.1.length ac) ∧ w.cell? ⟨bk, o + (i * 3 + 2), none⟩ = some (.bool x.2.2) ∧ RowV w F (.slice ta x.1.length tc) x.1.length 1 (ints x.1) ∧ SetsAt w F (.slice aa x.2.1.length ac) x.2.1 := by
  obtain ⟨ps, h1, h2, h3⟩ := h
  rw [← h1, List.getElem?_map] at hx
  obtain ⟨p, hp, rfl⟩ := Option.map_eq_some_iff.1 hx
  have he := h3 p (List.mem_of_getElem? hp)
  obtain ⟨ta, tc, aa, ac, e⟩ := he.shape
  obtain ⟨_, a, c, e1, _, _, _, hc⟩ := h2
  have g0 := flat3_get hp 0 (by decide)
  have g1 := flat3_get hp 1 (by decide)
  have g2 := flat3_get hp 2 (by decide)
  obtain ⟨bk, o, e2, _, _, c0⟩ := hc (i * 3) p.1.1 (by rw [Nat.add_zero] at g0; rw [g0]; rfl)
  obtain ⟨bk1, o1, e3, _, _, c1⟩ := hc (i * 3 + 1) p.1.2 (by rw [g1]; rfl)
  obtain ⟨bk2, o2, e4, _, _, c2⟩ := hc (i * 3 + 2) (.bool p.2.2.2) (by rw [g2]; rfl)
  subst e2
  obtain ⟨rfl, rfl⟩ : bk = bk1 ∧ o = o1 := by simpa using e3
  obtain ⟨rfl, rfl⟩ : bk = bk2 ∧ o = o2 := by simpa using e4
  rw [e] at c0 c1
  have h5 := he.1
  have h6 := he.2
  rw [e] at h5 h6
  exact ⟨bk, o, c, ta, tc, aa, ac, e1, c0, c1, c2, h5, h6⟩
end
end Go.Proofs.YtikpcipkkhmcfaaGreat.Beh

/- Orders of traces: the program's and the reference's comparisons; the models. (cmpL cut from KG, KJ.) -/
namespace Go.Proofs.YtikpcipkkhmcfaaGreat.Beh
open Go.RowKit Go.Lib Go.Proofs.YtikpcipkkhmcfaaGreat Go.Proofs.YtikpcipkkhmcfaaGreat.Ind

/-- slices.Compare. -/
def cmpL : List Int → List Int → Int
  | [], [] => 0
  | [], _ :: _ => -1
  | _ :: _, [] => 1
  | a :: r, b :: s => if cmpI a b = 0 then cmpL r s else cmpI a b
set_option maxRecDepth 100000 in
theorem cmpL_any (B : Nat) (a b : Option Addr) (ca cb : Nat) (xs ys : List Int) (w : World) (h1 : Rd B w a xs.length ca 1 (ints xs)) (h2 : Rd B w b ys.length cb 1 (ints ys)) :
    Calls Tryz.prog 79 #[.slice a xs.length ca, .slice b ys.length cb] w fun e w' => e = .returned (.int .i64 (cmpL xs ys)) ∧ w = w' := by
  have l1 := h1.lt
  have l2 := h2.lt
  obtain ⟨R, hR⟩ : ∃ R, cmpL xs ys = R := ⟨_, rfl⟩
  rw [hR]
  have HR := Lib.hid hR
  have H1 := Lib.hid h1
  have H2 := Lib.hid h2
  clear h1 h2 hR
  go_enter Tryz.func79, Tryz.ntmps79
  go_wp2_with fail
  go_loopg [11] xs.length (fun q i wr => ∃ (k : Nat), q = xs.length - k ∧ k ≤ xs.length ∧ k ≤ ys.length ∧ i = .int .i64 k ∧ cmpL (xs.drop k) (ys.drop k) = R ∧ w = wr)
  case atStart => exact ⟨0, rfl, Nat.zero_le _, Nat.zero_le _, rfl, HR.out, rfl⟩
  case round =>
    clear HR
    obtain ⟨k, rfl, hk, hk2, rfl, hd, rfl⟩ := hrel
    have i4 : (0 : Int) ≤ (k : Int) := by omega
    by_cases hlt : k < xs.length
    · have i5 : (k : Int) < (xs.length : Int) := by omega
      obtain ⟨x, hx⟩ : ∃ x, xs[k]? = some x := ⟨_, List.getElem?_eq_getElem hlt⟩
      obtain ⟨g, o, rfl, _, d1⟩ := H1.out.at hx
      rw [drop_cons hx] at hd
      by_cases hlt2 : k < ys.length
      · have i6 : (k : Int) < (ys.length : Int) := by omega
        obtain ⟨y, hy⟩ : ∃ y, ys[k]? = some y := ⟨_, List.getElem?_eq_getElem hlt2⟩
        obtain ⟨g', o', rfl, _, d2⟩ := H2.out.at hy
        rw [drop_cons hy, cmpL] at hd
        by_cases hc : cmpI x y = 0
        · rw [if_pos hc] at hd
          have HD := Lib.hid hd
          have hcall := cmpI_any x y w
          rw [hc] at hcall
          clear hx hy hd hc
          go_wp2_with (go_at_call 78; refine hcall.mono ?_; rintro e1 w1 ⟨rfl, rfl⟩)
          go_roundg (xs.length - (k + 1))
          case rel => exact ⟨k + 1, rfl, by omega, by omega, by go_num, HD.out, rfl⟩
          case measure => omega
        · rw [if_neg hc] at hd
          have HD := Lib.hid hd
          have hb : (cmpI x y != 0) = true := by simpa using hc
          have hcall := cmpI_any x y w
          generalize cmpI x y = z at *
          clear hx hy hd
          go_wp2_with (go_at_call 78; refine hcall.mono ?_; rintro e1 w1 ⟨rfl, rfl⟩)
          go_ret
          exact ⟨by rw [← HD.out]; rfl, rfl⟩
      · have i6 : (ys.length : Int) ≤ (k : Int) := by omega
        have e9 : ys.drop k = [] := List.drop_eq_nil_of_le (by omega)
        rw [e9, cmpL] at hd
        subst hd
        clear hx
        go_wp2_with fail
        go_ret
        exact ⟨rfl, rfl⟩
    · have i5 : ¬ (k : Int) < (xs.length : Int) := by omega
      have e9 : xs.drop k = [] := List.drop_eq_nil_of_le (by omega)
      rw [e9] at hd
      by_cases hlt2 : k < ys.length
      · have i6 : (xs.length : Int) < (ys.length : Int) := by omega
        obtain ⟨y, hy⟩ : ∃ y, ys[k]? = some y := ⟨_, List.getElem?_eq_getElem hlt2⟩
        rw [drop_cons hy, cmpL] at hd
        subst hd
        clear hy
        go_wp2_with fail
        go_ret
        exact ⟨rfl, rfl⟩
      · have i6 : ¬ (xs.length : Int) < (ys.length : Int) := by omega
        have e9 : ys.drop k = [] := List.drop_eq_nil_of_le (by omega)
        rw [e9, cmpL] at hd
        subst hd
        go_wp2_with fail
        go_ret
        exact ⟨rfl, rfl⟩

theorem cmpI_neg {x y : Int} : cmpI x y < 0 ↔ x < y := by unfold cmpI; repeat' split <;> omega
theorem cmpI_zero {x y : Int} : cmpI x y = 0 ↔ x = y := by unfold cmpI; repeat' split <;> omega
theorem cmpL_neg : ∀ (a b : List Int), (cmpL a b < 0 ↔ ltL a b = true)
  | [], [] => by simp [cmpL, ltL]
  | [], _ :: _ => by simp [cmpL, ltL]
  | _ :: _, [] => by simp [cmpL, ltL]
  | a :: r, b :: s => by
    have ih := cmpL_neg r s
    rw [cmpL, ltL]
    simp only [Bool.or_eq_true, Bool.and_eq_true, decide_eq_true_eq]
    split
    · rename_i h
      rw [ih]
      rw [cmpI_zero] at h
      constructor
      · exact fun h2 => .inr ⟨h, h2⟩
      · rintro (h2 | h2)
        · omega
        · exact h2.2
    · rename_i h
      rw [cmpI_neg]
      rw [cmpI_zero] at h
      constructor
      · exact .inl
      · rintro (h2 | h2)
        · exact h2
        · exact absurd h2.1 h

set_option maxRecDepth 100000 in
set_option maxHeartbeats 2000000 in
theorem compare_any {F G : List Nat} (w : World) (u v : Value) (a b : List Int) (h1 : RowV w F u a.length 1 (ints a)) (h2 : RowV w G v b.length 1 (ints b)) :
    Calls Tryz.prog 46 #[u, v] w fun e w' => e = .returned (.int .i64 (or2 (cmpI a.length b.length) (cmpL a b))) ∧ Frm [] w w' := by
  obtain ⟨aa, ac, rfl⟩ := RowV.shape h1
  obtain ⟨ba, bc, rfl⟩ := RowV.shape h2
  have l1 := h1.rd.lt
  have l2 := h2.rd.lt
  have HL := Lib.hid (cmpL_any w.heap.size aa ba ac bc a b w h1.rd h2.rd)
  clear h1 h2
  go_enter Tryz.func46, Tryz.ntmps46
  obtain ⟨p, hp⟩ : ∃ p, p = cmpI a.length b.length := ⟨_, rfl⟩
  obtain ⟨q, hq⟩ : ∃ q, q = cmpL a b := ⟨_, rfl⟩
  have HC := Lib.hid (cmpI_any a.length b.length w)
  rw [← hp] at HC ⊢
  rw [← hq] at HL ⊢
  clear hp hq
  go_wp2_with (first
    | (go_at_call 78; refine HC.out.mono ?_; rintro e1 w1 ⟨rfl, rfl⟩)
    | (go_at_call 79; refine HL.out.mono ?_; rintro e2 w2 ⟨rfl, rfl⟩)
    | (go_at_call 77; refine (or2_any p q w.heap.size _ ((RowAt.made w 3 [.int .i64 p, .int .i64 q] #[.int .i64 p, .int .i64 q] rfl).cell (i := 0) rfl) ((RowAt.made w 3 [.int .i64 p, .int .i64 q] #[.int .i64 p, .int .i64 q] rfl).cell (i := 1) rfl)).mono ?_; rintro e3 w3 ⟨rfl, rfl⟩)
    | fail)
  go_ret
  exact ⟨rfl, (Frm.refl [] w).alloc _⟩
end Go.Proofs.YtikpcipkkhmcfaaGreat.Beh
