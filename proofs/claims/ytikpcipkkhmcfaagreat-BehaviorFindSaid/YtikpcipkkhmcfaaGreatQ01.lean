/- Texts G5, A2, DT. -/
import Derived.Test.YtikpcipkkhmcfaaGreatQ00
/- Contract of Valid of the reference. -/
namespace Go.Proofs.YtikpcipkkhmcfaaGreat
open Go.RowKit

set_option maxRecDepth 100000 in
set_option maxHeartbeats 2000000 in
theorem refValid_any (B : Nat) (a : Option Addr) (cap : Nat) (l : Lts) (w : World) (h : LAt B w a cap l) :
    Calls Tryz.prog 67 #[.agg #[.slice a l.length cap]] w fun e w' => e = .returned (.bool (validB l)) ∧ Frm [] w w' := by
  have f0 : Frm [] w (w.alloc (.cells #[.slice a l.length cap] 25)) := (Frm.refl [] w).alloc _
  have hbox := box1 w (.slice a l.length cap) 25
  have hl := h.lt
  have h' := h.nil f0 rfl
  have hlo := refLoose_any B a cap l _ h'
  have HB := Lib.hid hbox
  go_enter Tryz.func67, Tryz.ntmps67
  go_wp2_with fail
  refine hlo.mono ?_
  rintro e w1 ⟨rfl, hf1⟩
  clear hlo hbox
  have F1 := f0.trans hf1 (by simp)
  cases hL : looseB l with
  | false =>
    have HL : Hid (validB l = false) := by show validB l = false; rw [validB, hL, Bool.false_and]
    clear hL h h' f0
    go_wp2_with fail
    go_ret
    exact ⟨by rw [HL.out]; rfl, F1⟩
  | true =>
    obtain ⟨R, hR⟩ : ∃ R, l.all ascB = R := ⟨_, rfl⟩
    have HRR : Hid (validB l = R) := by show validB l = R; rw [validB, hL, Bool.true_and, hR]
    have h1 := h'.nil hf1 rfl
    have hbc := (HB.out.frm hf1 (by simp)).cell (i := 0) rfl
    clear hL h h' f0
    go_wp2_with fail
    clear hbc
    go_loopg [3] l.length (fun g i wr => ∃ (k : Nat), g = l.length - k ∧ k ≤ l.length ∧ i = .int .i64 k ∧ Frm [] w1 wr ∧ (l.drop k).all ascB = R)
    case atStart => exact ⟨0, rfl, Nat.zero_le _, rfl, Frm.refl _ _, hR⟩
    case round =>
      clear hR
      obtain ⟨k, rfl, hk, rfl, hF, hgo⟩ := hrel
      have HF := Lib.hid hF
      have hbc := (HB.out.frm (hf1.trans hF (by simp)) (by simp)).cell (i := 0) rfl
      clear hF
      by_cases hlt : k < l.length
      · obtain ⟨row, hrow⟩ : ∃ row, l[k]? = some row := ⟨_, List.getElem?_eq_getElem hlt⟩
        obtain ⟨b, o, ra, rc, rfl, hb, hc0, hrr⟩ := h1.cell k row hrow
        have hc := HF.out.cell hc0 (by simp)
        rw [drop_cons hrow, List.all_cons] at hgo
        have hrl := hrr.lt
        have HGO := Lib.hid hgo
        have HRR2 := Lib.hid hrr
        have HC0 := Lib.hid hc0
        clear hgo hrow hrr h1 hc0
        go_wp2_with fail
        go_loopg [4] row.length (fun g i wr => ∃ (j : Nat), g = row.length - j ∧ j ≤ row.length ∧ i = .int .i64 ((j : Int) + 1) ∧
          Frm [] w1 wr ∧ (ascB (row.drop j) && (l.drop (k + 1)).all ascB) = R)
        case atStart => exact ⟨0, rfl, Nat.zero_le _, rfl, HF.out, HGO.out⟩
        case round =>
          clear hc hbc
          obtain ⟨j, rfl, hj, rfl, hF2, hgo2⟩ := hrel
          have HF2 := Lib.hid hF2
          have hbc := (HB.out.frm (hf1.trans hF2 (by simp)) (by simp)).cell (i := 0) rfl
          have hc := HF2.out.cell HC0.out (by simp)
          have E1 := Lib.hid hbc
          have E2 := Lib.hid hc
          by_cases hjl : j + 1 < row.length
          · obtain ⟨⟨e, t⟩, harc⟩ : ∃ x, row[j]? = some x := ⟨_, List.getElem?_eq_getElem (by omega)⟩
            obtain ⟨⟨f, u⟩, harc2⟩ : ∃ x, row[j + 1]? = some x := ⟨_, List.getElem?_eq_getElem hjl⟩
            have hrw := HRR2.out.frm hF2 (by simp)
            obtain ⟨b1, o1, rfl, hb1, d1, d2⟩ := hrw.2.2.2 j e t harc
            obtain ⟨b2, o2, hbo, hb2, d3, d4⟩ := hrw.2.2.2 (j + 1) f u harc2
            obtain ⟨rfl, rfl⟩ : b1 = b2 ∧ o1 = o2 := by simpa using hbo
            rw [ascB_two harc harc2] at hgo2
            have D1 := Lib.hid d1
            have D2 := Lib.hid d2
            have D3 := Lib.hid d3
            have D4 := Lib.hid d4
            have hcm := less_any (e, t) (f, u)
            clear hF2 harc harc2 hrw hbo d1 d2 d3 d4
            have hw1 : IntKind.i64.wrap (j : Int) = (j : Int) := IntWalk.i64_in _ (by omega)
            have hi1 : (j : Int) + 1 < (row.length : Int) := by omega
            have hi2 : (j : Int) < (row.length : Int) := by omega
            have hi3 : (0 : Int) ≤ (j : Int) := by omega
            have hi4 : (0 : Int) ≤ (j : Int) + 1 := by omega
            have hn : ((j : Int) + 1).toNat = j + 1 := by omega
            cases hlt2 : ltA (e, t) (f, u) with
            | true =>
              rw [hlt2, Bool.true_and] at hgo2
              have HGO2 := Lib.hid hgo2
              rw [hlt2] at hcm
              have HCM := Lib.hid hcm
              clear hgo2 hlt2 hcm
              go_wp2_with fail
              go_region_held3 (fun w' => w'.cell? ⟨w.heap.size, 0, none⟩ = some (.slice (some ⟨b, o, none⟩) l.length cap) ∧ w'.cell? ⟨b, o + k, none⟩ = some (.slice (some ⟨b1, o1, none⟩) row.length rc) ∧ w'.cell? ⟨b1, o1 + j * 2, none⟩ = some (.int .i64 e) ∧ w'.cell? ⟨b1, o1 + j * 2 + 1, none⟩ = some (.int .i64 t) ∧ w'.cell? ⟨b1, o1 + (j + 1) * 2, none⟩ = some (.int .i64 f) ∧ w'.cell? ⟨b1, o1 + (j + 1) * 2 + 1, none⟩ = some (.int .i64 u)) (first | exact ⟨E1.out, E2.out, D1.out, D2.out, D3.out, D4.out⟩ | exact ⟨hf5.cell E1.out (by simp), hf5.cell E2.out (by simp), hf5.cell D1.out (by simp), hf5.cell D2.out (by simp), hf5.cell D3.out (by simp), hf5.cell D4.out (by simp)⟩) (first | (go_at_call 66; refine (HCM.out _).mono ?_; rintro e5 w5 ⟨rfl, hf5⟩))
              go_wp2_with fail
              go_roundg (row.length - (j + 1))
              case rel => exact ⟨j + 1, rfl, by omega, by go_num, HF2.out.drew.trans hf5 (by simp), HGO2.out⟩
              case measure => omega
            | false =>
              rw [hlt2, Bool.false_and, Bool.false_and] at hgo2
              have HGO2 := Lib.hid hgo2
              rw [hlt2] at hcm
              have HCM := Lib.hid hcm
              clear hgo2 hlt2 hcm
              go_wp2_with fail
              go_region_held3 (fun w' => w'.cell? ⟨w.heap.size, 0, none⟩ = some (.slice (some ⟨b, o, none⟩) l.length cap) ∧ w'.cell? ⟨b, o + k, none⟩ = some (.slice (some ⟨b1, o1, none⟩) row.length rc) ∧ w'.cell? ⟨b1, o1 + j * 2, none⟩ = some (.int .i64 e) ∧ w'.cell? ⟨b1, o1 + j * 2 + 1, none⟩ = some (.int .i64 t) ∧ w'.cell? ⟨b1, o1 + (j + 1) * 2, none⟩ = some (.int .i64 f) ∧ w'.cell? ⟨b1, o1 + (j + 1) * 2 + 1, none⟩ = some (.int .i64 u)) (first | exact ⟨E1.out, E2.out, D1.out, D2.out, D3.out, D4.out⟩ | exact ⟨hf5.cell E1.out (by simp), hf5.cell E2.out (by simp), hf5.cell D1.out (by simp), hf5.cell D2.out (by simp), hf5.cell D3.out (by simp), hf5.cell D4.out (by simp)⟩) (first | (go_at_call 66; refine (HCM.out _).mono ?_; rintro e5 w5 ⟨rfl, hf5⟩))
              go_wp2_with fail
              go_ret
              exact ⟨by rw [HRR.out, ← HGO2.out]; rfl, F1.trans (HF2.out.drew.trans hf5 (by simp)) (by simp)⟩
          · rw [ascB_short (by omega), Bool.true_and] at hgo2
            have HGO2 := Lib.hid hgo2
            clear hgo2 hF2
            have hi1 : (row.length : Int) ≤ (j : Int) + 1 := by omega
            go_wp2_with fail
            go_roundg (l.length - (k + 1))
            case rel => exact ⟨k + 1, rfl, by omega, by go_num, HF2.out, HGO2.out⟩
            case measure => omega
      · have : k = l.length := by omega
        subst this
        have HT : Hid (R = true) := by
          show R = true
          rw [← hgo, List.drop_length]; rfl
        clear hgo h1
        go_wp2_with fail
        go_ret
        exact ⟨by rw [HRR.out, HT.out]; rfl, F1.trans HF.out (by simp)⟩

end Go.Proofs.YtikpcipkkhmcfaaGreat

/- Merged text: G6, G7, G8, G9 of the notes. -/
/- The tape of numbers: contracts of New, Next, Event, Visible. -/
namespace Go.Proofs.YtikpcipkkhmcfaaGreat
open Go.RowKit

/-- A tape lies at block tb; at most N numbers have been drawn. -/
def TapeOk (B : Nat) (w : World) (tb : Nat) (N : Nat) : Prop := ∃ (a : Option Addr) (cap : Nat) (xs : List Int) (at0 : Nat),
  RowAt w tb 62 [.slice a xs.length cap, .int .i64 at0] ∧ Rd B w a xs.length cap 1 (ints xs) ∧ (∀ x ∈ xs, -9223372036854775808 ≤ x ∧ x ≤ 9223372036854775807) ∧ at0 ≤ N

theorem TapeOk.frm {B : Nat} {fp : List Nat} {w w' : World} {tb N : Nat} (h : TapeOk B w tb N) (hf : Frm fp w w') (hn : ∀ k ∈ fp, B ≤ k) (ht : tb ∉ fp) : TapeOk B w' tb N := by
  obtain ⟨a, cap, xs, at0, h1, h2, h3, h4⟩ := h
  exact ⟨a, cap, xs, at0, h1.frm hf ht, h2.frm hf hn, h3, h4⟩

theorem TapeOk.nil {B : Nat} {w w' : World} {tb N : Nat} (h : TapeOk B w tb N) (hf : Frm [] w w') : TapeOk B w' tb N := h.frm hf (by simp) (by simp)

theorem TapeOk.mono {B : Nat} {w : World} {tb N M : Nat} (h : TapeOk B w tb N) (hm : N ≤ M) : TapeOk B w tb M := by
  obtain ⟨a, cap, xs, at0, h1, h2, h3, h4⟩ := h
  exact ⟨a, cap, xs, at0, h1, h2, h3, by omega⟩

theorem TapeOk.lt {B : Nat} {w : World} {tb N : Nat} (h : TapeOk B w tb N) : tb < w.heap.size := by
  obtain ⟨a, cap, xs, at0, h1, _⟩ := h
  exact h1.lt

theorem tape_new (B : Nat) (a : Option Addr) (cap : Nat) (xs : List Int) (w : World) (h : Rd B w a xs.length cap 1 (ints xs)) (hx : ∀ x ∈ xs, -9223372036854775808 ≤ x ∧ x ≤ 9223372036854775807) :
    Calls Tryz.prog 9 #[.slice a xs.length cap] w fun e w' => e = .returned (.pointer (some ⟨w.heap.size, 0, none⟩)) ∧ Frm [] w w' ∧ TapeOk B w' w.heap.size 0 ∧ w'.heap.size = w.heap.size + 1 := by
  have f0 : Frm [] w (w.alloc (.cells #[.slice a xs.length cap, .int .i64 0] 62)) := (Frm.refl [] w).alloc _
  have hT : TapeOk B (w.alloc (.cells #[.slice a xs.length cap, .int .i64 0] 62)) w.heap.size 0 :=
    ⟨a, cap, xs, 0, RowAt.made _ _ _ _ rfl, h.frm f0 (by simp), hx, Nat.le_refl _⟩
  have hl := h.lt
  have HT := Lib.hid hT
  clear hx hT h
  go_enter Tryz.func9, Tryz.ntmps9
  go_wp2
  go_ret
  exact ⟨rfl, f0, HT.out, by simp⟩

set_option maxRecDepth 100000 in
set_option maxHeartbeats 2000000 in
theorem next_any (B tb N : Nat) (n : Int) (w : World) (h : TapeOk B w tb N) (hB : B ≤ tb) (hN : N ≤ 1000000000) (hn : n ≤ 1000000000) :
    Calls Tryz.prog 12 #[.pointer (some ⟨tb, 0, none⟩), .int .i64 n] w fun e w' => (∃ v : Int, e = .returned (.int .i64 v) ∧ (1 ≤ n → 0 ≤ v ∧ v < n) ∧ (n < 1 → v = 0)) ∧ TapeOk B w' tb (N + 1) ∧ Frm [tb] w w' := by
  obtain ⟨a, cap, xs, at0, h1, h2, h3, h4⟩ := h
  have hl := h2.lt
  have c0 := h1.cell (i := 0) rfl
  have c1 := h1.cell (i := 1) rfl
  have z1 := h1.frozen 1
  have i0 : (0 : Int) ≤ (at0 : Int) := by omega
  have i1 : (at0 : Int) ≤ 1000000000 := by omega
  have hend : ∀ k : Nat, TapeOk B ((w.setCell ⟨tb, 1, none⟩ (.int .i64 ((at0 : Int) + 1))).drewN k) tb (N + 1) := by
    intro k
    refine ⟨a, cap, xs, at0 + 1, ?_, ?_, h3, by omega⟩
    · have := h1.setCell 1 (.int .i64 ((at0 + 1 : Nat) : Int))
      exact this.drewN k
    · refine (h2.frm (fp := [tb]) ?_ (by simp; omega))
      exact ((Frm.refl _ _).setCell (.inl (by simp)) _).drewN k
  have HEND := Lib.hid hend
  by_cases hlt : at0 < xs.length
  · obtain ⟨x, hx⟩ : ∃ x, xs[at0]? = some x := ⟨_, List.getElem?_eq_getElem hlt⟩
    obtain ⟨b, o, rfl, hb, hc⟩ := h2.at hx
    have hxb := h3 x (List.mem_of_getElem? hx)
    obtain ⟨x1, x2⟩ := hxb
    have i2 : (at0 : Int) < (xs.length : Int) := by omega
    clear h1 h2 h3 hx hend
    by_cases hn1 : n < 1
    · have HN := Lib.hid hn1
      go_enter Tryz.func12, Tryz.ntmps12
      go_wp2_with fail
      go_quiet (fail)
      go_wp2_with fail
      go_quiet (fail)
      go_wp2_with fail
      go_ret
      exact ⟨⟨0, rfl, fun h => by have := HN.out; omega, fun _ => rfl⟩, HEND.out _, ((Frm.refl _ _).setCell (.inl (by simp)) _).drewN _⟩
    · have hn2 : 1 ≤ n := by omega
      clear hn1
      by_cases hx0 : 0 ≤ x
      · have e1 : 0 ≤ x % n := Int.emod_nonneg _ (by omega)
        have e2 : x % n < n := Int.emod_lt_of_pos _ (by omega)
        go_enter Tryz.func12, Tryz.ntmps12
        go_wp2_with fail
        go_quiet (fail)
        go_wp2_with fail
        go_quiet (fail)
        go_wp2_with fail
        go_ret
        exact ⟨⟨_, rfl, fun _ => ⟨e1, e2⟩, fun h => by omega⟩, HEND.out _, ((Frm.refl _ _).setCell (.inl (by simp)) _).drewN _⟩
      · have hx0' : x < 0 := by omega
        have e1 : x.tmod n ≤ 0 := by
          have := Int.tmod_nonneg (a := -x) n (by omega); rw [Int.neg_tmod] at this; omega
        have e2 : -n < x.tmod n := by
          have := Int.tmod_lt_of_pos (-x) (show 0 < n by omega); rw [Int.neg_tmod] at this; omega
        clear hx0
        by_cases hz : x.tmod n < 0
        · have hz2 := hz
          go_enter Tryz.func12, Tryz.ntmps12
          go_wp2_with fail
          go_quiet (fail)
          go_wp2_with fail
          go_quiet (fail)
          go_wp2_with fail
          go_ret
          exact ⟨⟨_, rfl, fun _ => ⟨by omega, by omega⟩, fun h => by omega⟩, HEND.out _, ((Frm.refl _ _).setCell (.inl (by simp)) _).drewN _⟩
        · have hz2 : 0 ≤ x.tmod n := by omega
          clear hz
          go_enter Tryz.func12, Tryz.ntmps12
          go_wp2_with fail
          go_quiet (fail)
          go_wp2_with fail
          go_quiet (fail)
          go_wp2_with fail
          go_ret
          exact ⟨⟨_, rfl, fun _ => ⟨by omega, by omega⟩, fun h => by omega⟩, HEND.out _, ((Frm.refl _ _).setCell (.inl (by simp)) _).drewN _⟩
  · have i2 : (xs.length : Int) ≤ (at0 : Int) := by omega
    clear h1 h2 h3 hend
    by_cases hn1 : n < 1
    · have HN := Lib.hid hn1
      go_enter Tryz.func12, Tryz.ntmps12
      go_wp2_with fail
      go_quiet (fail)
      go_wp2_with fail
      go_ret
      exact ⟨⟨0, rfl, fun h => by have := HN.out; omega, fun _ => rfl⟩, HEND.out _, ((Frm.refl _ _).setCell (.inl (by simp)) _).drewN _⟩
    · have hn2 : 1 ≤ n := by omega
      clear hn1
      · have e1 : 0 ≤ (5 * (at0 : Int) + 3) % n := Int.emod_nonneg _ (by omega)
        have e2 : (5 * (at0 : Int) + 3) % n < n := Int.emod_lt_of_pos _ (by omega)
        go_enter Tryz.func12, Tryz.ntmps12
        go_wp2_with fail
        go_quiet (fail)
        go_wp2_with fail
        go_ret
        exact ⟨⟨_, rfl, fun _ => ⟨e1, e2⟩, fun h => by omega⟩, HEND.out _, ((Frm.refl _ _).setCell (.inl (by simp)) _).drewN _⟩

end Go.Proofs.YtikpcipkkhmcfaaGreat

/- The tape of numbers: contracts of Event, Visible; and Insert of the reference. -/
namespace Go.Proofs.YtikpcipkkhmcfaaGreat
open Go.RowKit

def events : List Int := [0, 0, 2, 3, 4, 2, 3, 1, 2, 5, 1025]
theorem events_ok (k : Nat) (h : k < 11) : ∃ e : Int, events[k]? = some e ∧ 0 ≤ e ∧ e ≤ 1025 := by
  have hl : events.length = 11 := rfl
  refine ⟨events[k], List.getElem?_eq_getElem (by omega), ?_⟩
  have : ∀ x ∈ events, 0 ≤ x ∧ x ≤ 1025 := by decide
  exact this _ (List.getElem_mem _)

set_option maxRecDepth 100000 in
set_option maxHeartbeats 1000000 in
theorem event_any (B tb N : Nat) (w : World) (h : TapeOk B w tb N) (hB : B ≤ tb) (hN : N ≤ 1000000000) :
    Calls Tryz.prog 37 #[.pointer (some ⟨tb, 0, none⟩)] w fun e w' => (∃ v : Int, e = .returned (.int .i64 v) ∧ 0 ≤ v ∧ v ≤ 1025) ∧ TapeOk B w' tb (N + 1) ∧ Frm [tb] w w' := by
  have f0 : Frm [] w (w.alloc (.cells (ints events).toArray 3)) := (Frm.refl [] w).alloc _
  have hr := RowAt.made w 3 (ints events) (ints events).toArray (by simp)
  have hn := next_any B tb N 11 _ (h.nil f0) hB hN (by decide)
  have htl : tb < w.heap.size := h.lt
  have HR := Lib.hid hr
  clear hr h
  simp only [ints, events, List.map_cons, List.map_nil] at hn f0
  go_enter Tryz.func37, Tryz.ntmps37
  go_wp2_with fail
  refine hn.mono ?_
  rintro e w1 ⟨⟨v, rfl, hv, _⟩, hT, hf⟩
  obtain ⟨k, rfl⟩ := Int.eq_ofNat_of_zero_le (hv (by decide)).1
  have hk := (hv (by decide)).2
  obtain ⟨x, hx, hx1, hx2⟩ := events_ok k (by omega)
  have hc := (HR.out.frm hf (by simp; omega)).cell (i := k) (v := .int .i64 x) (by simp [ints, hx])
  clear hn hv
  have F1 := (f0.mono (fq := [tb]) (by simp)).trans hf (by simp)
  go_wp2
  go_ret
  exact ⟨⟨x, rfl, hx1, hx2⟩, hT, F1⟩

end Go.Proofs.YtikpcipkkhmcfaaGreat

/- Rows of arcs that a call has made; Insert of the reference. -/
namespace Go.Proofs.YtikpcipkkhmcfaaGreat
open Go.RowKit

def flatA (row : List Arc) : List Value := row.flatMap fun a => [.int .i64 a.1, .int .i64 a.2]
theorem flatA_len (row : List Arc) : (flatA row).length = row.length * 2 := by
  induction row with
  | nil => rfl
  | cons a r ih => simp only [flatA, List.flatMap_cons, List.length_append, List.length_cons, List.length_nil] at ih ⊢; omega
theorem flatA_cons (a : Arc) (r : List Arc) : flatA (a :: r) = .int .i64 a.1 :: .int .i64 a.2 :: flatA r := rfl
theorem flatA_app (r s : List Arc) : flatA (r ++ s) = flatA r ++ flatA s := by simp [flatA]
theorem flatA_get : ∀ (row : List Arc) (j : Nat) (e t : Int), row[j]? = some (e, t) → (flatA row)[j * 2]? = some (.int .i64 e) ∧ (flatA row)[j * 2 + 1]? = some (.int .i64 t)
  | a :: r, 0, e, t, h => by simp at h; subst h; simp [flatA_cons]
  | a :: r, j + 1, e, t, h => by
    have := flatA_get r j e t (by simpa using h)
    rw [show (j + 1) * 2 = j * 2 + 1 + 1 by omega]
    simpa [flatA_cons] using this
  | [], _, _, _, h => by simp at h
theorem flatA_take (row : List Arc) (i : Nat) : flatA (row.take i) = (flatA row).take (i * 2) := by
  induction row generalizing i with
  | nil => simp [flatA]
  | cons a r ih =>
    cases i with
    | zero => simp [flatA]
    | succ i =>
      rw [show (i + 1) * 2 = i * 2 + 1 + 1 by omega]
      simp only [List.take_succ_cons, flatA_cons]
      rw [ih i]
theorem flatA_drop (row : List Arc) (i : Nat) : flatA (row.drop i) = (flatA row).drop (i * 2) := by
  induction row generalizing i with
  | nil => simp [flatA]
  | cons a r ih =>
    cases i with
    | zero => simp
    | succ i =>
      rw [show (i + 1) * 2 = i * 2 + 1 + 1 by omega]
      simp only [List.drop_succ_cons, flatA_cons]
      rw [ih i]
theorem flatA_one (row : List Arc) : ∀ u ∈ flatA row, u.oneCell' = true := by
  intro u hu
  simp only [flatA, List.mem_flatMap] at hu
  obtain ⟨a, _, ha⟩ := hu
  simp at ha
  rcases ha with rfl | rfl <;> rfl

/-- A row of arcs that the call has made (or nil). -/
abbrev OwnR (B : Nat) (w : World) (v : Value) (row : List Arc) : Prop := w.ownsRow B 66 2 v row.length (flatA row)

theorem rowR_of_own {B C : Nat} {w : World} {a : Option Addr} {cap : Nat} {row : List Arc} (h : OwnR B w (.slice a row.length cap) row) (hc : w.heap.size ≤ C) (hl : row.length ≤ 140737488355328) : RowR C w a cap row := by
  have hr := rd_of_owns h hc
  refine ⟨hr.le, hr.max, hl, fun j e t hj => ?_⟩
  have hg := flatA_get row j e t hj
  obtain ⟨b, o, ha, hb, h1⟩ := hr.cell _ _ hg.1
  obtain ⟨b', o', ha', hb', h2⟩ := hr.cell _ _ hg.2
  rw [ha] at ha'
  cases ha'
  exact ⟨b, o, ha, hb, by simpa [Nat.add_assoc] using h1, by simpa [Nat.add_assoc] using h2⟩

/-! ### Insert -/
def insAt (row : List Arc) (x : Arc) : Nat := (row.takeWhile (ltA · x)).length
def insA (row : List Arc) (x : Arc) : List Arc := if row[insAt row x]? = some x then row else row.take (insAt row x) ++ x :: row.drop (insAt row x)

theorem insAt_le (row : List Arc) (x : Arc) : insAt row x ≤ row.length := by
  unfold insAt
  have := (List.takeWhile_prefix (l := row) (ltA · x)).length_le
  exact this
theorem insA_len (row : List Arc) (x : Arc) : (insA row x).length ≤ row.length + 1 := by
  unfold insA
  split
  · omega
  · have := insAt_le row x
    simp; omega

/-- The search stands at i: all before are less. -/
theorem insAt_go {row : List Arc} {x : Arc} {i : Nat} (h : i ≤ insAt row x) {y : Arc} (hy : row[i]? = some y) : (ltA y x = true → i + 1 ≤ insAt row x) ∧ (ltA y x = false → insAt row x = i) := by
  induction row generalizing i with
  | nil => simp at hy
  | cons a r ih =>
    cases i with
    | zero =>
      simp at hy
      subst hy
      unfold insAt
      constructor
      · intro hl; simp [hl]
      · intro hl; simp [hl]
    | succ i =>
      simp at hy
      unfold insAt at h
      cases ha : ltA a x with
      | false => simp [ha] at h
      | true =>
        simp only [List.takeWhile_cons, ha, if_true, List.length_cons] at h
        have := ih (i := i) (by unfold insAt; omega) hy
        unfold insAt at this ⊢
        simp only [List.takeWhile_cons, ha, if_true, List.length_cons]
        constructor
        · intro hl; have := this.1 hl; omega
        · intro hl; have := this.2 hl; omega

end Go.Proofs.YtikpcipkkhmcfaaGreat

/- Contract of Insert of the reference. -/
namespace Go.Proofs.YtikpcipkkhmcfaaGreat
open Go.RowKit

theorem take_src {w w' : World} {g : Nat} {row : List Arc} {fp : List Nat} (h : RowAt w g 66 (flatA row)) (hf : Frm fp w w') (hn : g ∉ fp) (k : Nat) : ∀ (j : Nat) (u : Value), (flatA (row.take k))[j]? = some u → w'.cell? ((⟨g, 0, none⟩ : Addr).add j) = some u := by
  intro j u hu
  rw [Addr.add_lit, Nat.zero_add]
  refine (h.frm hf hn).cell ?_
  rw [flatA_take, List.getElem?_take] at hu
  split at hu
  · exact hu
  · cases hu
theorem drop_src {w w' : World} {g : Nat} {row : List Arc} {fp : List Nat} (h : RowAt w g 66 (flatA row)) (hf : Frm fp w w') (hn : g ∉ fp) (k : Nat) : ∀ (j : Nat) (u : Value), (flatA (row.drop k))[j]? = some u → w'.cell? ((⟨g, k * 2, none⟩ : Addr).add j) = some u := by
  intro j u hu
  rw [Addr.add_lit]
  refine (h.frm hf hn).cell ?_
  rw [flatA_drop, List.getElem?_drop] at hu
  exact hu

/-- append to a row of arcs that the call has made: n elements, N behind it. -/
theorem wpl_app_arc {w : World} {ops : Array Oper} {rest : List Oper} {o : Oper} {a : Act} {Q : Exit → Act → World → Prop} (hgd : o.guard = none) (s x : Operand)
    (ho : o.op = .call { callee := .builtin .append, args := #[s, x], argTypes := #[63, 63] })
    (B n N : Nat) (v : Value) (row : List Arc) (hs : a.eval s = v) (hown : OwnR B w v row) (hn : row.length = n) (ad : Addr) (m c : Nat) (r2 : List Arc) (hx : a.eval x = .slice (some ad) m c) (hm : r2.length = m)
    (hnews : ∀ (j : Nat) (u : Value), (flatA r2)[j]? = some u → w.cell? (ad.add j) = some u) (hN : n + m = N) (hb : N ≤ 4000000) (hB : B ≤ w.heap.size)
    (h : ∀ a' cp w', OwnR B w' (.slice a' N cp) (row ++ r2) → (∀ w0 : World, w0.heap.size ≤ B → Frm [] w0 w → Frm [] w0 w') → wpList Tryz.prog ops Q rest (a.put o.dst (.slice a' N cp)) w') : wpList Tryz.prog ops Q (o :: rest) a w := by
  obtain ⟨i0, hi, hz0, hz1, hz2⟩ := info_parts infoArc
  subst hm hn hN
  refine wpList_append_own w hgd s x 63 ho B 66 i0 (.agg #[.int .i64 0, .int .i64 0]) 2 16 Tryz.underlying63 hi hz0 hz1 hz2 rfl (by decide) v row.length (flatA row) hs hown ad r2.length c (flatA r2) hx (flatA_len r2) hnews (flatA_one r2) (by unfold maxLen; omega) (by omega) hB ?_
  intro v' w' hown' hgr _
  have hown2 : OwnR B w' v' (row ++ r2) := by
    have : (row ++ r2).length = row.length + r2.length := List.length_append
    unfold OwnR
    rw [this, flatA_app]
    exact hown'
  obtain ⟨a', cp, rfl, _⟩ := owns_shape (ownsB_mono hown' (Nat.zero_le B))
  exact h a' cp w' hown2 (fun w0 h0 hF => hF.grown hgr (fun k hk => .inr (by have := (hown.lt k hk).1; omega)))

theorem own_empty (w : World) (B : Nat) (hB : B ≤ w.heap.size) : OwnR B (w.alloc (.cells #[] 66)) (.slice (some ⟨w.heap.size, 0, none⟩) 0 0) [] :=
  World.ownsRow_made w #[] 0 hB (by decide) rfl

set_option maxRecDepth 100000 in
set_option maxHeartbeats 2000000 in
theorem insert_some (B g cap : Nat) (row : List Arc) (x y : Int) (w : World) (hB0 : B ≤ w.heap.size) (h : OwnR B w (.slice (some ⟨g, 0, none⟩) row.length cap) row) (hl : row.length ≤ 1000000) (hpos : 0 < row.length) :
    Calls Tryz.prog 36 #[.slice (some ⟨g, 0, none⟩) row.length cap, .agg #[.int .i64 x, .int .i64 y]] w fun e w' => ∃ a cp, e = .returned (.slice a (insA row (x, y)).length cp) ∧ OwnR B w' (.slice a (insA row (x, y)).length cp) (insA row (x, y)) ∧ Frm [] w w' := by
  obtain ⟨i0, hi, hz0, hz1, hz2⟩ := info_parts infoArc
  have hrd := rd_of_owns h (Nat.le_refl _)
  have hcap := hrd.le
  have hmax := hrd.max
  have hlen := hrd.lt
  have hrow : RowAt w g 66 (flatA row) := by
    rcases h.2 with ⟨h0, _⟩ | ⟨g', cp', cur, h0, hb, hg, h1, h2, h3, h4⟩
    · cases h0
    · obtain ⟨rfl, rfl⟩ : g = g' ∧ cap = cp' := by simpa using h0
      exact ⟨cur, hg, by rw [flatA_len]; exact h4⟩
  have f0 : Frm [] w (w.alloc (.cells #[.int .i64 x, .int .i64 y] 66)) := (Frm.refl [] w).alloc _
  have hbox := RowAt.made w 66 [.int .i64 x, .int .i64 y] #[.int .i64 x, .int .i64 y] rfl
  have HROW := Lib.hid hrow
  have HBOX := Lib.hid hbox
  have HO := Lib.hid h
  clear h hrd hrow hbox
  go_enter Tryz.func36, Tryz.ntmps36
  go_wp2_with fail
  go_loopg [5] row.length (fun q i wr => ∃ (k : Nat), q = row.length - k ∧ k ≤ insAt row (x, y) ∧ i = .int .i64 k ∧ Frm [] (w.alloc (.cells #[.int .i64 x, .int .i64 y] 66)) wr)
  case atStart => exact ⟨0, rfl, Nat.zero_le _, rfl, Frm.refl _ _⟩
  case round =>
    obtain ⟨k, rfl, hk, rfl, hF⟩ := hrel
    have hkl : k ≤ row.length := Nat.le_trans hk (insAt_le _ _)
    have HF := Lib.hid hF
    have hb := HBOX.out.frm hF (by simp)
    have q0 := hb.cell (i := 0) rfl
    have q1 := hb.cell (i := 1) rfl
    have F := f0.trans hF (by simp)
    have HFF := Lib.hid F
    clear hF hb F
    by_cases hlt : k < row.length
    · obtain ⟨⟨e, t⟩, harc⟩ : ∃ z, row[k]? = some z := ⟨_, List.getElem?_eq_getElem hlt⟩
      have hg := flatA_get row k e t harc
      have d1 := (HROW.out.frm HFF.out (by simp)).cell hg.1
      have d2 := (HROW.out.frm HFF.out (by simp)).cell hg.2
      have hgo := insAt_go hk harc
      have hle := less_any (e, t) (x, y)
      have HARC := Lib.hid harc
      have D1 := Lib.hid d1
      have D2 := Lib.hid d2
      have Q0 := Lib.hid q0
      have Q1 := Lib.hid q1
      have i1 : (k : Int) < (row.length : Int) := by omega
      have i2 : (0 : Int) ≤ (k : Int) := by omega
      have hb1 : decide ((k : Int) < (row.length : Int)) = true := by simpa using hlt
      clear harc hg d1 d2 q0 q1
      cases hlt2 : ltA (e, t) (x, y) with
      | true =>
        have hk2 := hgo.1 hlt2
        rw [hlt2] at hle
        have HLE := Lib.hid hle
        clear hgo hlt2 hle
        go_wp2_with fail
        go_region_held3 (fun w' => w'.cell? ⟨w.heap.size, 0, none⟩ = some (.int .i64 x) ∧ w'.cell? ⟨w.heap.size, 1, none⟩ = some (.int .i64 y) ∧ w'.cell? ⟨g, k * 2, none⟩ = some (.int .i64 e) ∧ w'.cell? ⟨g, k * 2 + 1, none⟩ = some (.int .i64 t)) (first | exact ⟨Q0.out, Q1.out, D1.out, D2.out⟩ | exact ⟨hf5.cell Q0.out (by simp), hf5.cell Q1.out (by simp), hf5.cell D1.out (by simp), hf5.cell D2.out (by simp)⟩) (first | (go_at_call 66; refine (HLE.out _).mono ?_; rintro e5 w5 ⟨rfl, hf5⟩))
        go_wp2_with fail
        go_roundg (row.length - (k + 1))
        case rel => exact ⟨k + 1, rfl, hk2, by go_num, HF.out.drew.trans hf5 (by simp)⟩
        case measure => omega
      | false =>
        have hk2 := hgo.2 hlt2
        rw [hlt2] at hle
        have HLE := Lib.hid hle
        have HK2 := Lib.hid hk2
        clear hgo hlt2 hle hk2
        go_wp2_with fail
        go_region_held3 (fun w' => w'.cell? ⟨w.heap.size, 0, none⟩ = some (.int .i64 x) ∧ w'.cell? ⟨w.heap.size, 1, none⟩ = some (.int .i64 y) ∧ w'.cell? ⟨g, k * 2, none⟩ = some (.int .i64 e) ∧ w'.cell? ⟨g, k * 2 + 1, none⟩ = some (.int .i64 t)) (first | exact ⟨Q0.out, Q1.out, D1.out, D2.out⟩ | exact ⟨hf5.cell Q0.out (by simp), hf5.cell Q1.out (by simp), hf5.cell D1.out (by simp), hf5.cell D2.out (by simp)⟩) (first | (go_at_call 66; refine (HLE.out _).mono ?_; rintro e5 w5 ⟨rfl, hf5⟩))
        go_wp2_with fail
        have FF5 := HFF.out.drew.trans hf5 (by simp)
        have G5 := HF.out.drew.trans hf5 (by simp)
        have q0 := hf5.cell Q0.out (by simp)
        have q1 := hf5.cell Q1.out (by simp)
        have d1 := hf5.cell D1.out (by simp)
        have d2 := hf5.cell D2.out (by simp)
        by_cases heq : e = x ∧ t = y
        · obtain ⟨rfl, rfl⟩ := heq
          have HINS : Hid (insA row (e, t) = row) := by
            show insA row (e, t) = row
            unfold insA
            rw [HK2.out, if_pos HARC.out]
          clear hf5
          go_quiet (fail)
          go_wp2_with fail
          go_ret
          rw [HINS.out]
          exact ⟨_, cap, rfl, ownsB_frm HO.out (FF5.drewN _) (by simp), FF5.drewN _⟩
        · have HINS : Hid (insA row (x, y) = row.take k ++ (x, y) :: row.drop k) := by
            show insA row (x, y) = _
            unfold insA
            rw [HK2.out, if_neg]
            rw [HARC.out]
            intro h9
            simp only [Option.some.injEq, Prod.mk.injEq] at h9
            exact heq h9
          have hor : (e == x) = false ∨ ((e == x) = true ∧ (t == y) = false) := by
            by_cases h1 : e = x
            · exact .inr ⟨by simpa using h1, by simpa using fun h2 => heq ⟨h1, h2⟩⟩
            · exact .inl (by simpa using h1)
          have hkc : ¬ k = cap := by omega
          clear heq hf5
          rcases hor with hne | ⟨hne1, hne⟩
          all_goals
            go_quiet (fail)
            have hkt : (row.take k).length = k := by rw [List.length_take]; omega
            have hkt2 : (row.take k ++ [(x, y)]).length = k + 1 := by rw [List.length_append, hkt]; rfl
            have HKT := Lib.hid hkt
            have HKT2 := Lib.hid hkt2
            clear hkt hkt2
            go_wp2_with (first | (at_builtin; refine wpl_app_arc rfl (.tmp 34) (.tmp 37) rfl (w.heap.size + 1) 0 k _ [] rfl (own_empty _ _ (by simpa using G5.size)) rfl ⟨g, 0, none⟩ k cap (row.take k) rfl HKT.out (take_src HROW.out ((FF5.drewN nq).alloc _) (by simp) k) (Nat.zero_add k) (by omega) (by have := G5.size; simp at this ⊢; omega) ?_) | (at_builtin; fail))
            intro a6 cp6 w6 hown6 hf6
            have G6 := hf6 (w.alloc (.cells #[.int .i64 x, .int .i64 y] 66)) (by simp) ((G5.drewN nq).alloc _)
            have F6 := f0.trans G6 (by simp)
            have p0 := (HBOX.out.frm G6 (by simp)).cell (i := 0) rfl
            have p1 := (HBOX.out.frm G6 (by simp)).cell (i := 1) rfl
            clear hf6 FF5 q0 q1 d1 d2
            go_wp2_with (first | (at_builtin; refine wpl_app_arc rfl (.tmp 39) (.tmp 41) rfl (w.heap.size + 1) k (k + 1) (.slice a6 k cp6) (row.take k) rfl (hown6.alloc _) HKT.out ⟨w6.heap.size, 0, none⟩ 1 1 [(x, y)] rfl rfl (cells_new w6 [.int .i64 x, .int .i64 y] _) rfl (by omega) (by have := G6.size; simp at this ⊢; omega) ?_) | (at_builtin; fail))
            intro a7 cp7 w7 hown7 hf7
            have G7 := hf7 (w.alloc (.cells #[.int .i64 x, .int .i64 y] 66)) (by simp) (G6.alloc _)
            have F7 := f0.trans G7 (by simp)
            clear hf7 p0 p1 hown6
            go_wp2_with (first | (at_builtin; refine wpl_app_arc rfl (.tmp 43) (.tmp 46) rfl (w.heap.size + 1) (k + 1) (row.length + 1) (.slice a7 (k + 1) cp7) (row.take k ++ [(x, y)]) rfl hown7 HKT2.out ⟨g, k * 2, none⟩ (row.length - k) (cap - k) (row.drop k) rfl (by rw [List.length_drop]) (drop_src HROW.out F7 (by simp) k) (by omega) (by omega) (by have := G7.size; simp at this ⊢; omega) ?_) | (at_builtin; fail))
            intro a8 cp8 w8 hown8 hf8
            have F8 := f0.trans (hf8 (w.alloc (.cells #[.int .i64 x, .int .i64 y] 66)) (by simp) G7) (by simp)
            clear hf8 hown7
            go_wp2_with fail
            go_ret
            rw [HINS.out]
            have hlen9 : (row.take k ++ (x, y) :: row.drop k).length = row.length + 1 := by simp; omega
            exact ⟨a8, cp8, by rw [hlen9]; rfl, by rw [hlen9]; exact ownsB_mono hown8 (by omega), F8⟩
    · obtain rfl : k = row.length := by omega
      have hia : insAt row (x, y) = row.length := Nat.le_antisymm (insAt_le _ _) hk
      have HINS : Hid (insA row (x, y) = row ++ [(x, y)]) := by
        show insA row (x, y) = _
        unfold insA
        rw [hia, if_neg (by simp)]
        simp
      have hb1 : decide ((row.length : Int) < (row.length : Int)) = false := by simp
      have G5 := HF.out
      have FF5 := HFF.out
      have hne0 : ¬ row.length = 0 := by omega
      have hne1 : ¬ (0 = row.length) := by omega
      clear hia hk HF HFF
      by_cases hkc : row.length = cap
      · have HKC := Lib.hid hkc
        clear hkc
        have hc0 : cap = row.length := HKC.out.symm
        subst hc0
        go_wp2_with fail
        go_quiet (fail)
        go_wp2_with fail
        go_quiet (fail)
        go_wp2_with (first | (at_builtin; refine wpl_app_arc rfl (.tmp 34) (.tmp 37) rfl (w.heap.size + 1) 0 row.length _ [] rfl (own_empty _ _ (by simpa using G5.size)) rfl ⟨g, 0, none⟩ row.length row.length row rfl rfl (fun j u hu => take_src HROW.out ((FF5.drewN _).alloc _) (by simp) row.length j u (by rw [List.take_length]; exact hu)) (Nat.zero_add _) (by omega) (by have := G5.size; simp at this ⊢; omega) ?_) | (at_builtin; fail))
        intro a6 cp6 w6 hown6 hf6
        have G6 := hf6 (w.alloc (.cells #[.int .i64 x, .int .i64 y] 66)) (by simp) ((G5.drewN _).alloc _)
        have F6 := f0.trans G6 (by simp)
        have p0 := (HBOX.out.frm G6 (by simp)).cell (i := 0) rfl
        have p1 := (HBOX.out.frm G6 (by simp)).cell (i := 1) rfl
        clear hf6 FF5 q0 q1
        go_wp2_with (first | (at_builtin; refine wpl_app_arc rfl (.tmp 39) (.tmp 41) rfl (w.heap.size + 1) row.length (row.length + 1) (.slice a6 row.length cp6) row rfl (hown6.alloc _) rfl ⟨w6.heap.size, 0, none⟩ 1 1 [(x, y)] rfl rfl (cells_new w6 [.int .i64 x, .int .i64 y] _) rfl (by omega) (by have := G6.size; simp at this ⊢; omega) ?_) | (at_builtin; fail))
        intro a7 cp7 w7 hown7 hf7
        have G7 := hf7 (w.alloc (.cells #[.int .i64 x, .int .i64 y] 66)) (by simp) (G6.alloc _)
        have F7 := f0.trans G7 (by simp)
        clear hf7 p0 p1 hown6
        go_wp2_with (first | (at_builtin; refine wpl_app_arc rfl (.tmp 43) (.tmp 46) rfl (w.heap.size + 1) (row.length + 1) (row.length + 1) (.slice a7 (row.length + 1) cp7) (row ++ [(x, y)]) rfl hown7 (by simp) ⟨g, 0, none⟩ 0 0 [] rfl rfl (by intro j u hu; simp [flatA] at hu) rfl (by omega) (by have := G7.size; simp at this ⊢; omega) ?_) | (at_builtin; fail))
        intro a8 cp8 w8 hown8 hf8
        have F8 := f0.trans (hf8 (w.alloc (.cells #[.int .i64 x, .int .i64 y] 66)) (by simp) G7) (by simp)
        clear hf8 hown7
        go_wp2_with fail
        go_ret
        rw [HINS.out]
        have hlen9 : (row ++ [(x, y)]).length = row.length + 1 := by simp
        have own9 : OwnR (w.heap.size + 1) w8 (.slice a8 (row.length + 1) cp8) (row ++ [(x, y)]) := by first | exact hown8 | simpa using hown8
        exact ⟨a8, cp8, by rw [hlen9]; rfl, by rw [hlen9]; exact ownsB_mono own9 (by omega), F8⟩
      · have hkc2 : ¬ row.length = cap := hkc
        go_wp2_with fail
        go_quiet (fail)
        go_wp2_with fail
        go_quiet (fail)
        go_wp2_with (first | (at_builtin; refine wpl_app_arc rfl (.tmp 34) (.tmp 37) rfl (w.heap.size + 1) 0 row.length _ [] rfl (own_empty _ _ (by simpa using G5.size)) rfl ⟨g, 0, none⟩ row.length cap row rfl rfl (fun j u hu => take_src HROW.out ((FF5.drewN _).alloc _) (by simp) row.length j u (by rw [List.take_length]; exact hu)) (Nat.zero_add _) (by omega) (by have := G5.size; simp at this ⊢; omega) ?_) | (at_builtin; fail))
        intro a6 cp6 w6 hown6 hf6
        have G6 := hf6 (w.alloc (.cells #[.int .i64 x, .int .i64 y] 66)) (by simp) ((G5.drewN _).alloc _)
        have F6 := f0.trans G6 (by simp)
        have p0 := (HBOX.out.frm G6 (by simp)).cell (i := 0) rfl
        have p1 := (HBOX.out.frm G6 (by simp)).cell (i := 1) rfl
        clear hf6 FF5 q0 q1
        go_wp2_with (first | (at_builtin; refine wpl_app_arc rfl (.tmp 39) (.tmp 41) rfl (w.heap.size + 1) row.length (row.length + 1) (.slice a6 row.length cp6) row rfl (hown6.alloc _) rfl ⟨w6.heap.size, 0, none⟩ 1 1 [(x, y)] rfl rfl (cells_new w6 [.int .i64 x, .int .i64 y] _) rfl (by omega) (by have := G6.size; simp at this ⊢; omega) ?_) | (at_builtin; fail))
        intro a7 cp7 w7 hown7 hf7
        have G7 := hf7 (w.alloc (.cells #[.int .i64 x, .int .i64 y] 66)) (by simp) (G6.alloc _)
        have F7 := f0.trans G7 (by simp)
        clear hf7 p0 p1 hown6
        go_wp2_with (first | (at_builtin; refine wpl_app_arc rfl (.tmp 43) (.tmp 46) rfl (w.heap.size + 1) (row.length + 1) (row.length + 1) (.slice a7 (row.length + 1) cp7) (row ++ [(x, y)]) rfl hown7 (by simp) ⟨g, row.length * 2, none⟩ 0 (cap - row.length) [] rfl rfl (by intro j u hu; simp [flatA] at hu) rfl (by omega) (by have := G7.size; simp at this ⊢; omega) ?_) | (at_builtin; fail))
        intro a8 cp8 w8 hown8 hf8
        have F8 := f0.trans (hf8 (w.alloc (.cells #[.int .i64 x, .int .i64 y] 66)) (by simp) G7) (by simp)
        clear hf8 hown7
        go_wp2_with fail
        go_ret
        rw [HINS.out]
        have hlen9 : (row ++ [(x, y)]).length = row.length + 1 := by simp
        have own9 : OwnR (w.heap.size + 1) w8 (.slice a8 (row.length + 1) cp8) (row ++ [(x, y)]) := by first | exact hown8 | simpa using hown8
        exact ⟨a8, cp8, by rw [hlen9]; rfl, by rw [hlen9]; exact ownsB_mono own9 (by omega), F8⟩

end Go.Proofs.YtikpcipkkhmcfaaGreat

/- The tape and rows to be read: all in A1, A2 (the graph seat). -/
