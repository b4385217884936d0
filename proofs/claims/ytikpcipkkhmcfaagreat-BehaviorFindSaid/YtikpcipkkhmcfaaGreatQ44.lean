/- Texts WD, WE. -/
import Derived.Test.YtikpcipkkhmcfaaGreatQ43
/- The reference's entry, offered. -/
namespace Go.Proofs.YtikpcipkkhmcfaaGreat.Beh
open Go.Shelf Go.RowKit Go.Lib Go.Sort Go.Maps Go.Proofs.YtikpcipkkhmcfaaGreat Go.Proofs.YtikpcipkkhmcfaaGreat.Ind

def REntEnd (w : World) (F : List Nat) (l : Lts) (ta : Option Addr) (tn tc : Nat) (s : List Nat) (e : Ending) (w' : World) : Prop :=
  (∃ aa ac, e = .returned (.agg #[.slice ta tn tc, .slice aa (minL (accN l s)).length ac, .bool (divB l s)]) ∧ SetsAt w' F (.slice aa (minL (accN l s)).length ac) (minL (accN l s))) ∧ Frm [] w w'
set_option linter.unusedSimpArgs false in
set_option maxRecDepth 100000 in
set_option maxHeartbeats 8000000 in
theorem rentry_any (B : Nat) (F G : List Nat) (w : World) (a : Option Addr) (cap : Nat) (l : Lts) (ta : Option Addr) (tn tc : Nat) (sv : Value) (s : List Nat) (hv : validB l = true) (h0 : LAt B w a cap l) (hs : RowV w G sv s.length 1 (ints (natI s))) (hsl : ∀ v ∈ s, v < l.length) (hsn : s.length ≤ 16384) (hF : ∀ k ∈ F, k < w.heap.size) :
    Calls Tryz.prog 68 #[.agg #[.slice a l.length cap], .slice ta tn tc, sv] w (REntEnd w F l ta tn tc s) := by
  obtain ⟨sa, sc, rfl⟩ := RowV.shape hs
  have HLB : Hid (∀ (m : Int) (W : World), Frm [] w W → w.heap.size + 1 < W.heap.size → Calls Tryz.prog 98 #[.agg #[.slice a l.length cap], .slice sa s.length sc, .int .i64 m] W (LabEnd W ((w.heap.size + 1) :: F) l s m)) := Lib.hid fun m W hf hz => label_any B _ G W a cap l _ s m hv (h0.nil hf rfl) (hs.nil hf) hsl hsn (fun k hk => by
    rcases List.mem_cons.1 hk with rfl | hk
    · exact hz
    · exact Nat.lt_of_lt_of_le (hF k hk) hf.size)
  have S0 := ((Sep.start w).box w.heap.size rfl 25 [.slice a l.length cap] #[.slice a l.length cap] rfl).box (w.heap.size + 1) (by simp) 69 [.slice none 0 0, .slice none 0 0, .bool false] #[.slice none 0 0, .slice none 0 0, .bool false] rfl
  have HS0 := Lib.hid S0
  obtain ⟨M, hM⟩ : ∃ M, M = minL (accN l s) := ⟨_, rfl⟩
  obtain ⟨D, hD⟩ : ∃ D, D = divB l s := ⟨_, rfl⟩
  obtain ⟨M3, hM3⟩ : ∃ M3, M3 = labA l s 3 := ⟨_, rfl⟩
  have H2 : Hid (∀ (W : World), Frm [] w W → w.heap.size + 1 < W.heap.size → Calls Tryz.prog 98 #[.agg #[.slice a l.length cap], .slice sa s.length sc, .int .i64 2] W (fun e w' => (∃ a c, e = .returned (.tuple #[.slice a M.length c, .bool false]) ∧ SetsAt w' ((w.heap.size + 1) :: F) (.slice a M.length c) M) ∧ Frm [] W w')) := Lib.hid fun W hf hz => by
    rw [hM]
    exact HLB.out 2 W hf hz
  have H3 : Hid (∀ (W : World), Frm [] w W → w.heap.size + 1 < W.heap.size → Calls Tryz.prog 98 #[.agg #[.slice a l.length cap], .slice sa s.length sc, .int .i64 3] W (fun e w' => (∃ a c, e = .returned (.tuple #[.slice a M3.length c, .bool D]) ∧ SetsAt w' ((w.heap.size + 1) :: F) (.slice a M3.length c) M3) ∧ Frm [] W w')) := Lib.hid fun W hf hz => by
    rw [hM3, hD]
    exact HLB.out 3 W hf hz
  have HE : Hid (∀ e w', (∃ aa ac, e = .returned (.agg #[.slice ta tn tc, .slice aa M.length ac, .bool D]) ∧ SetsAt w' F (.slice aa M.length ac) M) → Frm [] w w' → REntEnd w F l ta tn tc s e w') := Lib.hid fun e w' h1 h2 => ⟨by rw [← hM, ← hD]; exact h1, h2⟩
  clear hs hsl h0 hv hF HLB hM hD hM3 S0
  go_enter Tryz.func68, Tryz.ntmps68
  go_wp2_with (first
    | (go_at_call 98; refine (H3.out _ S5.out.frm (S5.out.lt 0 rfl (by simp [boxC]))).mono ?_; rintro e6 w6 ⟨⟨a6, c6, rfl, -⟩, hf6⟩; have S6 := Lib.hid (S5.out.nil hf6); have A6 := Lib.hid (A5.out.nil hf6); have rr := (show RowAt w6 (w.heap.size + 1) 69 [.slice none 0 0, .slice none 0 0, .bool false] from S6.out.at_ 0 rfl); have y0 := rr.cell (i := 0) rfl; have y1 := rr.cell (i := 1) rfl; have y2 := rr.cell (i := 2) rfl; have v0 := rr.frozen 0; have v1 := rr.frozen 1; have v2 := rr.frozen 2; clear rr hf6)
    | (go_at_call 98; refine (H2.out _ HS0.out.frm (HS0.out.lt 0 rfl (by simp [boxC]))).mono ?_; rintro e5 w5 ⟨⟨a5, c5, rfl, hs5⟩, hf5⟩; have S5 := Lib.hid (HS0.out.nil hf5); have A5 := Lib.hid hs5; have x0 := (show RowAt w5 w.heap.size 25 [.slice a l.length cap] from S5.out.at_ 1 rfl).cell (i := 0) rfl; clear hs5 hf5)
    | fail)
  have SP := (((S6.out.putBox 0 rfl 0 (.slice ta tn tc)).putBox 0 rfl 1 (.slice a5 M.length c5)).putBox 0 rfl 2 (.bool D))
  simp only [List.set_cons_zero, List.set_cons_succ] at SP
  have hfs : Frm [w.heap.size + 1] w6 (((w6.setCell ⟨w.heap.size + 1, 0, none⟩ (.slice ta tn tc)).setCell ⟨w.heap.size + 1, 1, none⟩ (.slice a5 M.length c5)).setCell ⟨w.heap.size + 1, 2, none⟩ (.bool D)) := (((Frm.refl [w.heap.size + 1] w6).setCell (p := ⟨w.heap.size + 1, 0, none⟩) (.inl (by simp)) _).setCell (p := ⟨w.heap.size + 1, 1, none⟩) (.inl (by simp)) _).setCell (p := ⟨w.heap.size + 1, 2, none⟩) (.inl (by simp)) _
  have A9 := A6.out.step (F' := F) hfs (fun k hk => .inl (by rw [List.mem_singleton.1 hk]; simp)) (fun k hk => .inl (List.mem_cons_of_mem _ hk))
  clear hfs
  generalize World.setCell (World.setCell (World.setCell _ _ _) _ _) _ _ = W9 at *
  have rr : RowAt W9 (w.heap.size + 1) 69 [.slice ta tn tc, .slice a5 M.length c5, .bool D] := SP.at_ 0 rfl
  have e0 := rr.cell (i := 0) rfl
  have e1 := rr.cell (i := 1) rfl
  have e2 := rr.cell (i := 2) rfl
  refine bodyPost_ret (v := .agg #[.slice ta tn tc, .slice a5 M.length c5, .bool D]) (by simp [results, Tryz.results68, go_sem, e0, e1, e2]) rfl ?_
  exact HE.out _ _ ⟨a5, c5, rfl, A9⟩ SP.frm

def offB (l : Lts) (s : List Nat) (e : Int) : Bool := s.any fun v => (l.getD v []).any fun a => decide (a.1 = e)
theorem offB_iff {l : Lts} {s : List Nat} {e : Int} (he : e ≠ 0) : offB l s e = true ↔ e ∈ evN l s := by
  rw [offB, List.any_eq_true, mem_evN]
  constructor
  · rintro ⟨v, hv, h⟩
    obtain ⟨a, ha, h⟩ := List.any_eq_true.1 h
    exact ⟨v, hv, mem_visR.2 ⟨he, a, ha, by simpa using h⟩⟩
  · rintro ⟨v, hv, h⟩
    obtain ⟨_, a, ha, h⟩ := mem_visR.1 h
    exact ⟨v, hv, List.any_eq_true.2 ⟨a, ha, by simpa using h⟩⟩
set_option linter.unusedSimpArgs false in
set_option maxRecDepth 100000 in
set_option maxHeartbeats 4000000 in
theorem offered_any (B : Nat) (G : List Nat) (w : World) (a : Option Addr) (cap : Nat) (l : Lts) (sv : Value) (s : List Nat) (ev : Int) (hv : validB l = true) (h0 : LAt B w a cap l) (hs : RowV w G sv s.length 1 (ints (natI s))) (hsl : ∀ v ∈ s, v < l.length) :
    Calls Tryz.prog 69 #[.agg #[.slice a l.length cap], sv, .int .i64 ev] w fun e w' => e = .returned (.bool (offB l s ev)) ∧ Frm [] w w' := by
  obtain ⟨sa, sc, rfl⟩ := RowV.shape hs
  have HV := Lib.hid (vlts_of hv)
  have hfew := (vlts_of hv).few
  have i2 : (l.length : Int) ≤ 16384 := by omega
  have l1 := hs.rd.lt
  have F0 := Lib.hid ((Frm.refl [] w).alloc (.cells #[.slice a l.length cap] 25))
  have HB0 := Lib.hid (RowAt.made w 25 [.slice a l.length cap] #[.slice a l.length cap] rfl)
  have HL0 := Lib.hid h0
  have HS := Lib.hid hs
  have HSL := Lib.hid hsl
  clear h0 hs hsl hv
  go_enter Tryz.func69, Tryz.ntmps69
  go_wp2_with fail
  generalize w.alloc (.cells #[.slice a l.length cap] 25) = w1 at *
  go_loopg [7] s.length (fun q t wr => ∃ (i : Nat), q = s.length - i ∧ i ≤ s.length ∧ t = .int .i64 i ∧ (s.take i).any (fun v => (l.getD v []).any fun a => decide (a.1 = ev)) = false ∧ Frm [] w1 wr)
  case atStart => exact ⟨0, rfl, Nat.zero_le _, rfl, rfl, Frm.refl _ _⟩
  case round =>
    obtain ⟨i, hq, hi, rfl, hd, hF⟩ := hrel
    have HQ := Lib.hid hq
    have HF := Lib.hid hF
    have HD := Lib.hid hd
    have FW := Lib.hid (F0.out.trans hF (by simp))
    have i4 : (0 : Int) ≤ (i : Int) := by omega
    clear hq hF hd
    by_cases hlt : i < s.length
    · have i5 : (i : Int) < (s.length : Int) := by omega
      obtain ⟨c, hc⟩ : ∃ c, s[i]? = some c := ⟨_, List.getElem?_eq_getElem hlt⟩
      have hcl := HSL.out c (List.mem_of_getElem? hc)
      obtain ⟨row, hrow⟩ : ∃ row, l[c]? = some row := ⟨_, List.getElem?_eq_getElem hcl⟩
      have hgd : l.getD c [] = row := by rw [List.getD_eq_getElem?_getD, hrow]; rfl
      have hnx := any_next (p := fun v => (l.getD v []).any fun a => decide (a.1 = ev)) hc
      rw [HD.out, Bool.false_or, hgd] at hnx
      have HNX := Lib.hid hnx
      have HANY : Hid (row.any (fun a => decide (a.1 = ev)) = true → offB l s ev = true) := Lib.hid fun h => List.any_eq_true.2 ⟨c, List.mem_of_getElem? hc, by rw [hgd]; exact h⟩
      obtain ⟨bl, ol, ra, rc, hla, hblB, q1, hrr⟩ := HL0.out.cell c row hrow
      have hla' := hla
      subst hla'
      have hfewr := (HV.out.row row (List.mem_of_getElem? hrow)).few
      have i6 : (row.length : Int) ≤ 262144 := by omega
      have i7 : (0 : Int) ≤ (c : Int) := by omega
      have i8 : (c : Int) < (l.length : Int) := by omega
      obtain ⟨_, a', c', e', _, _, _, hcell⟩ := HS.out
      obtain ⟨rfl, rfl⟩ : sa = a' ∧ sc = c' := by simpa using e'
      obtain ⟨b, o, rfl, _, _, hc0⟩ := hcell i (.int .i64 (c : Int)) (ints_get (natI_get hc))
      have HRR := Lib.hid hrr
      have K1 := Lib.hid (FW.out.cell hc0 (by simp))
      have K2 := Lib.hid (FW.out.cell q1 (by simp))
      clear hcell hc0 e' hc hrow hgd hnx hrr q1 hla
      obtain ⟨wx, hwx⟩ : ∃ wx, wx = wr := ⟨wr, rfl⟩
      rw [← hwx] at HF FW K1 K2 ⊢
      clear hwx
      go_wp2_with fail
      go_loopg [8] row.length (fun q t wr => ∃ (j : Nat), q = row.length - j ∧ j ≤ row.length ∧ t = .int .i64 j ∧ (row.take j).any (fun a => decide (a.1 = ev)) = false ∧ Frm [] wx wr)
      case atStart => exact ⟨0, rfl, Nat.zero_le _, rfl, rfl, Frm.refl _ _⟩
      case round =>
        obtain ⟨j, hq2, hj, rfl, hd2, hF2⟩ := hrel
        have HQ2 := Lib.hid hq2
        have HF2 := Lib.hid hF2
        have HD2 := Lib.hid hd2
        have i9 : (0 : Int) ≤ (j : Int) := by omega
        have k0 := (HB0.out.frm (HF.out.trans HF2.out (by simp)) (by simp)).cell (i := 0) rfl
        have k1 := HF2.out.cell K1.out (by simp)
        have k2 := HF2.out.cell K2.out (by simp)
        clear hq2 hF2 hd2
        by_cases hjl : j < row.length
        · have i10 : (j : Int) < (row.length : Int) := by omega
          obtain ⟨⟨e, t⟩, harc⟩ : ∃ y, row[j]? = some y := ⟨_, List.getElem?_eq_getElem hjl⟩
          obtain ⟨g3, o3, rfl, hg3, p1, p2⟩ := HRR.out.2.2.2 j e t harc
          have d1 := HF2.out.cell (FW.out.cell p1 (by simp)) (by simp)
          have hnx := any_next (p := fun a : Arc => decide (a.1 = ev)) harc
          rw [HD2.out, Bool.false_or] at hnx
          by_cases he : e = ev
          · subst he
            have HR : Hid (offB l s e = true) := Lib.hid (HANY.out (any_at harc (by simp)))
            clear hnx harc p1 p2
            go_wp2_with fail
            go_quiet (fail)
            go_wp2_with fail
            go_quiet (fail)
            go_wp2_with fail
            go_ret
            exact ⟨by rw [HR.out]; rfl, ((FW.out.trans HF2.out (by simp)).drewN _).drewN _⟩
          · have jn : (e == ev) = false := by simpa using he
            have HA : Hid ((row.take (j + 1)).any (fun a => decide (a.1 = ev)) = false) := Lib.hid (by rw [hnx]; simpa using he)
            clear hnx harc p1 p2 he
            go_wp2_with fail
            go_quiet (fail)
            go_wp2_with fail
            go_quiet (fail)
            go_wp2_with fail
            go_roundg (row.length - (j + 1))
            case rel => exact ⟨j + 1, rfl, hjl, by go_num, HA.out, HF2.out.drewN _⟩
            case measure => have := HQ2.out; omega
        · have i10 : ¬ (j : Int) < (row.length : Int) := by omega
          have HA : Hid ((s.take (i + 1)).any (fun v => (l.getD v []).any fun a => decide (a.1 = ev)) = false) := Lib.hid (by
            rw [HNX.out]
            have := HD2.out
            rw [List.take_of_length_le (by omega)] at this
            exact this)
          go_wp2_with fail
          go_quiet (fail)
          go_wp2_with fail
          go_roundg (s.length - (i + 1))
          case rel => exact ⟨i + 1, rfl, hlt, by go_num, HA.out, (HF.out.trans HF2.out (by simp)).drewN _⟩
          case measure => have := HQ.out; omega
    · have i5 : ¬ (i : Int) < (s.length : Int) := by omega
      have HR : Hid (offB l s ev = false) := Lib.hid (by
        have := HD.out
        rw [List.take_of_length_le (by omega)] at this
        exact this)
      go_wp2_with fail
      go_ret
      exact ⟨by rw [HR.out]; rfl, FW.out⟩
end Go.Proofs.YtikpcipkkhmcfaaGreat.Beh

/- The state of the reference's Of in memory. (Cut from VS: no Walker.) -/
namespace Go.Proofs.YtikpcipkkhmcfaaGreat.Beh
open Go.Shelf Go.RowKit Go.Lib Go.Sort Go.Maps Go.Proofs.YtikpcipkkhmcfaaGreat Go.Proofs.YtikpcipkkhmcfaaGreat.Ind

/-- The blocks that may turn. -/
def blkR (F : List Nat) (v8 v9 : Value) : List Nat := F ++ (v8.ownBlock.toList ++ v9.ownBlock.toList)
theorem mem_blkR {F : List Nat} {v8 v9 : Value} {k : Nat} : k ∈ blkR F v8 v9 ↔ k ∈ F ∨ v8.ownBlock = some k ∨ v9.ownBlock = some k := by
  simp [blkR]
structure OfR (w0 : World) (F : List Nat) (sl : List (List Nat)) (el : List En) (v8 v9 : Value) (wr : World) : Prop where
  frm : Frm [] w0 wr
  ents : ∃ ps : List EV, ps.map (·.2) = el ∧ wr.ownsRow w0.heap.size 69 3 v9 el.length (ps.flatMap enE) ∧ ∀ p ∈ ps, EntAt wr (blkR F v8 v9) p
  sets : ∃ qs : List PV, qs.map (·.2) = sl.map natI ∧ wr.ownsRow w0.heap.size 22 1 v8 sl.length (qs.map (·.1)) ∧ PsAt wr (blkR F v8 v9) qs
  low : ∀ k ∈ F, k < w0.heap.size
section
variable {w0 : World} {F : List Nat} {sl : List (List Nat)} {el : List En} {v8 v9 : Value} {wr w' : World}
theorem OfR.blt (h : OfR w0 F sl el v8 v9 wr) : ∀ k ∈ blkR F v8 v9, k < wr.heap.size := by
  intro k hk
  have hs := h.frm.size
  have h1 := h.low
  obtain ⟨_, _, h8, _⟩ := h.sets
  obtain ⟨_, _, h9, _⟩ := h.ents
  rcases mem_blkR.1 hk with hk | hk | hk
  · have := h1 k hk; omega
  · exact (h8.lt k hk).2
  · exact (h9.lt k hk).2
theorem OfR.keep (h : OfR w0 F sl el v8 v9 wr) (hf : Frm [] wr w') : OfR w0 F sl el v8 v9 w' := by
  obtain ⟨ps, e1, e2, e3⟩ := h.ents
  obtain ⟨qs, s1, s2, s3⟩ := h.sets
  exact ⟨h.frm.trans hf (by simp), ⟨ps, e1, ownsB_frm e2 hf (by simp), fun p hp => (e3 p hp).nil hf⟩, ⟨qs, s1, ownsB_frm s2 hf (by simp), s3.nil hf⟩, h.low⟩
theorem OfR.ne8 (h : OfR w0 F sl el v8 v9 wr) {k : Nat} (hk : v8.ownBlock = some k) : v9.ownBlock ≠ some k := by
  obtain ⟨qs, s1, s2, s3⟩ := h.sets
  obtain ⟨ps, e1, e2, e3⟩ := h.ents
  exact fun e => owns_ne s2 e2 (by decide) hk e rfl
theorem OfR.ne9 (h : OfR w0 F sl el v8 v9 wr) {k : Nat} (hk : v9.ownBlock = some k) : v8.ownBlock ≠ some k := by
  obtain ⟨qs, s1, s2, s3⟩ := h.sets
  obtain ⟨ps, e1, e2, e3⟩ := h.ents
  exact fun e => owns_ne e2 s2 (by decide) hk e rfl
/-- One more set. -/
theorem OfR.set (h : OfR w0 F sl el v8 v9 wr) {N : Nat} {u v8' : Value} {x : List Nat} (qs : List PV) (s1 : qs.map (·.2) = sl.map natI) (s3 : PsAt wr (blkR F v8 v9) qs) (hf : Frm v8.ownBlock.toList wr w') (hN : N = sl.length + 1) (hown : w'.ownsRow w0.heap.size 22 1 v8' N (qs.map (·.1) ++ [u])) (hb : ∀ k, v8'.ownBlock = some k → v8.ownBlock = some k ∨ k = wr.heap.size) (hu : RowV wr (blkR F v8 v9) u x.length 1 (ints (natI x))) : OfR w0 F (sl ++ [x]) el v8' v9 w' := by
  obtain ⟨ps, e1, e2, e3⟩ := h.ents
  obtain ⟨_, _, s2, _⟩ := h.sets
  subst hN
  have hfp : ∀ k ∈ v8.ownBlock.toList, k ∈ blkR F v8 v9 ∨ wr.heap.size ≤ k := fun k hk => .inl (mem_blkR.2 (by simp at hk; simp [hk]))
  have hF' : ∀ k ∈ blkR F v8' v9, k ∈ blkR F v8 v9 ∨ wr.heap.size ≤ k := fun k hk => by
    rcases mem_blkR.1 hk with h1 | h1 | h1
    · exact .inl (mem_blkR.2 (.inl h1))
    · rcases hb k h1 with h2 | h2
      · exact .inl (mem_blkR.2 (.inr (.inl h2)))
      · exact .inr (Nat.le_of_eq h2.symm)
    · exact .inl (mem_blkR.2 (.inr (.inr h1)))
  refine ⟨h.frm.trans hf (fun k hk => .inr (s2.lt k (by simpa using hk)).1), ⟨ps, e1, ownsB_frm e2 hf (fun k hk hm => h.ne9 hk (by simpa using hm)), fun p hp => (e3 p hp).step hf hfp hF'⟩, ⟨qs ++ [(u, natI x)], by simp [s1], by simpa using hown, fun q hq => ?_⟩, h.low⟩
  rcases List.mem_append.1 hq with hq | hq
  · exact (s3 q hq).step hf hfp hF'
  · rw [List.mem_singleton.1 hq]
    have := hu.step hf hfp hF'
    rw [natI_len]
    exact this
/-- One more entry. -/
theorem OfR.ent (h : OfR w0 F sl el v8 v9 wr) {N : Nat} {v9' : Value} {p : EV} (ps : List EV) (e1 : ps.map (·.2) = el) (e3 : ∀ p ∈ ps, EntAt wr (blkR F v8 v9) p) (hf : Frm v9.ownBlock.toList wr w') (hN : N = el.length + 1) (hown : w'.ownsRow w0.heap.size 69 3 v9' N (ps.flatMap enE ++ enE p)) (hb : ∀ k, v9'.ownBlock = some k → v9.ownBlock = some k ∨ k = wr.heap.size) (hp : EntAt wr (blkR F v8 v9) p) : OfR w0 F sl (el ++ [p.2]) v8 v9' w' := by
  obtain ⟨_, _, e2, _⟩ := h.ents
  obtain ⟨qs, s1, s2, s3⟩ := h.sets
  subst hN
  have hfp : ∀ k ∈ v9.ownBlock.toList, k ∈ blkR F v8 v9 ∨ wr.heap.size ≤ k := fun k hk => .inl (mem_blkR.2 (by simp at hk; simp [hk]))
  have hF' : ∀ k ∈ blkR F v8 v9', k ∈ blkR F v8 v9 ∨ wr.heap.size ≤ k := fun k hk => by
    rcases mem_blkR.1 hk with h1 | h1 | h1
    · exact .inl (mem_blkR.2 (.inl h1))
    · exact .inl (mem_blkR.2 (.inr (.inl h1)))
    · rcases hb k h1 with h2 | h2
      · exact .inl (mem_blkR.2 (.inr (.inr h2)))
      · exact .inr (Nat.le_of_eq h2.symm)
  refine ⟨h.frm.trans hf (fun k hk => .inr (e2.lt k (by simpa using hk)).1), ⟨ps ++ [p], by simp [e1], by simpa using hown, fun q hq => ?_⟩, ⟨qs, s1, ownsB_frm s2 hf (fun k hk hm => h.ne8 hk (by simpa using hm)), s3.step hf hfp hF'⟩, h.low⟩
  rcases List.mem_append.1 hq with hq | hq
  · exact (e3 q hq).step hf hfp hF'
  · rw [List.mem_singleton.1 hq]
    exact hp.step hf hfp hF'
/-- The entries, when all is done. -/
theorem OfR.beh (h : OfR w0 F sl el v8 v9 wr) : BehAt wr F v9 el := by
  obtain ⟨ps, e1, e2, e3⟩ := h.ents
  refine ⟨ps, e1, rowV_of_owns e2 (fun k hk e => ?_), fun p hp => (e3 p hp).less (fun k hk => mem_blkR.2 (.inl hk))⟩
  have h1 := (e2.lt k e).1
  have h2 := h.low k hk
  omega
/-- Set i. -/
theorem OfR.set_at (h : OfR w0 F sl el v8 v9 wr) {i : Nat} {x : List Nat} (hx : sl[i]? = some x) : ∃ g c xa xc, v8 = .slice (some ⟨g, 0, none⟩) sl.length c ∧ sl.length ≤ c ∧ wr.cell? ⟨g, i, none⟩ = some (.slice xa x.length xc) ∧ RowV wr (blkR F v8 v9) (.slice xa x.length xc) x.length 1 (ints (natI x)) := by
  obtain ⟨qs, s1, s2, s3⟩ := h.sets
  obtain ⟨q, hq, hqx⟩ : ∃ q, qs[i]? = some q ∧ q.2 = natI x := by
    have := congrArg (fun l => l[i]?) s1
    simp only [List.getElem?_map, hx, Option.map_some] at this
    cases hq : qs[i]? with
    | none => rw [hq] at this; cases this
    | some q => rw [hq] at this; exact ⟨q, rfl, by simpa using this⟩
  have hl : qs.length = sl.length := by have := congrArg List.length s1; simpa using this
  have hpos : 0 < sl.length := by have := (List.getElem?_eq_some_iff.1 hx).1; omega
  have hr := s3 q (List.mem_of_getElem? hq)
  rw [hqx, natI_len] at hr
  obtain ⟨xa, xc, e⟩ := hr.shape
  obtain ⟨g, c, e', _, hc, _, hrow⟩ := ownsB_some s2 hpos
  rw [e] at hr
  exact ⟨g, c, xa, xc, e', hc, (hrow.cell (i := i) (by rw [List.getElem?_map, hq]; rfl)).trans (congrArg some e), hr⟩
/-- Entry i: its trace. -/
theorem OfR.ent_at (h : OfR w0 F sl el v8 v9 wr) {i : Nat} {x : En} (hx : el[i]? = some x) : ∃ g c ta tc, v9 = .slice (some ⟨g, 0, none⟩) el.length c ∧ el.length ≤ c ∧ wr.cell? ⟨g, i * 3, none⟩ = some (.slice ta x.1.length tc) ∧ RowV wr (blkR F v8 v9) (.slice ta x.1.length tc) x.1.length 1 (ints x.1) := by
  obtain ⟨ps, s1, s2, s3⟩ := h.ents
  obtain ⟨q, hq, hqx⟩ : ∃ q, ps[i]? = some q ∧ q.2 = x := by
    have := congrArg (fun l => l[i]?) s1
    simp only [List.getElem?_map, hx] at this
    cases hq : ps[i]? with
    | none => rw [hq] at this; cases this
    | some q => rw [hq] at this; exact ⟨q, rfl, by simpa using this⟩
  have hpos : 0 < el.length := by have := (List.getElem?_eq_some_iff.1 hx).1; omega
  have hr := (s3 q (List.mem_of_getElem? hq)).1
  rw [hqx] at hr
  obtain ⟨xa, xc, e⟩ := hr.shape
  obtain ⟨g, c, e', _, hc, _, hrow⟩ := ownsB_some s2 hpos
  rw [e] at hr
  have g0 := flat3_get hq 0 (by decide)
  rw [Nat.add_zero] at g0
  exact ⟨g, c, xa, xc, e', hc, (hrow.cell (i := i * 3) (by rw [g0]; rfl)).trans (congrArg some e), hr⟩
end
end Go.Proofs.YtikpcipkkhmcfaaGreat.Beh
