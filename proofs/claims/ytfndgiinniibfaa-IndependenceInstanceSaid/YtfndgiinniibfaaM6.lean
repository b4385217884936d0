/- Contract of change: a machine with one arc changed or added. (Printed by wip/tools/m6.py.) -/
import Derived.Test.YtfndgiinniibfaaM3
import Derived.Deep.RegionHeld3
namespace Go.Proofs.Ytfndgiinniibfaa.Ind
open Go.Shelf Go.RowKit Go.Lib

theorem rowC_one {w : World} {F : List Nat} {v : Value} {l : List (Value × RA)} (_h : RowV w F v l.length 6 (rowC l)) (hn : ∀ p ∈ l, RowV w F p.1 p.2.not.length 1 (ints p.2.not)) : ∀ u ∈ rowC l, u.oneCell' = true := by
  intro u hu
  obtain ⟨p, hp, hu⟩ := List.mem_flatMap.1 hu
  obtain ⟨a, c, e⟩ := RowV.shape (hn p hp)
  simp only [arcC, List.mem_cons, List.not_mem_nil, or_false] at hu
  rcases hu with rfl | rfl | rfl | rfl | rfl | rfl
  · rfl
  · rfl
  · rfl
  · rfl
  · rw [e]; rfl
  · rfl
/-- The changed machine is what it should be. -/
theorem changed_mk {norm : Bool} {m : RM} {r n s : Nat} {vs : List (Value × List RA)} {l l0 : List (Value × RA)} (hd : DrawnM norm m) (hvs : vs.map (·.2) = m.states) (hn : m.states.length = n) (hr : m.regs = r) (h0 : m.states[s]? = some (l0.map (·.2)))
    (hl : l.length ≤ 4) (hall : ∀ a ∈ l.map (·.2), a ∈ l0.map (·.2) ∨ arcOk r n a) : ChangedM m (Chunk m vs s l) := by
  have hlen : (Chunk m vs s l).states.length = m.states.length := by simp [Chunk, hvs]
  refine ⟨rfl, rfl, rfl, hlen, fun hv => ?_, fun row hrow => ?_⟩
  · have hold : ∀ row ∈ m.states, ∀ a ∈ row, arcB m a = true := by
      intro row hrow a ha
      simp only [validM, Bool.and_eq_true, List.all_eq_true] at hv
      exact (hv.2 row hrow).2 a ha
    have hre : ∀ a, arcB (Chunk m vs s l) a = arcB m a := fun a => by simp only [arcB, hlen]; rfl
    have hst : (Chunk m vs s l).states.all (fun r' => decide (r'.length ≤ 16) && r'.all (arcB (Chunk m vs s l))) = true := by
      rw [List.all_eq_true]
      intro row hrow
      rw [Bool.and_eq_true, decide_eq_true_eq, List.all_eq_true]
      rcases List.mem_or_eq_of_mem_set hrow with hrow | rfl
      · rw [hvs] at hrow
        exact ⟨by have := hd.short row hrow; omega, fun a ha => by rw [hre]; exact hold row hrow a ha⟩
      · refine ⟨by rw [List.length_map]; omega, fun a ha => ?_⟩
        rw [hre]
        rcases hall a ha with h9 | h9
        · exact hold _ (List.mem_of_getElem? h0) a h9
        · have h8 := h9 m.states hn
          have e : (⟨(r : Int), 2, 1, m.states⟩ : RM) = m := by
            rw [← hr, ← hd.data, ← hd.plain]
          rwa [e] at h8
    simp only [validM, Bool.and_eq_true] at hv ⊢
    refine ⟨⟨⟨⟨⟨hv.1.1.1.1.1, hv.1.1.1.1.2⟩, hv.1.1.1.2⟩, ?_⟩, ?_⟩, hst⟩
    · rw [hlen]; exact hv.1.1.2
    · rw [hlen]; exact hv.1.2
  · rcases List.mem_or_eq_of_mem_set hrow with hrow | rfl
    · rw [hvs] at hrow
      have := hd.short row hrow; omega
    · rw [List.length_map]; exact hl
set_option linter.unusedSimpArgs false in
set_option maxRecDepth 100000 in
set_option maxHeartbeats 8000000 in
theorem change_any (F : List Nat) (B tb N : Nat) (norm0 norm : Bool) (w : World) (m : RM) (sv : Value) (hst : StatesAt w F sv m.states) (htb : tb ∈ F) (hlow : ∀ k ∈ F, k < w.heap.size) (hd : DrawnM norm0 m) (h : TapeOk B w tb N) (hB : B ≤ tb) (hN : N ≤ 800000000) :
    Calls Try.prog 15 #[.pointer (some ⟨tb, 0, none⟩), machV m sv, .bool norm] w (ChgEnd F B tb N w m) := by
  have hlt := h.lt
  obtain ⟨n, hn⟩ : ∃ n, n = m.states.length := ⟨_, rfl⟩
  have hn1 : 1 ≤ n := by have := hd.few.1; omega
  have hn3 : n ≤ 3 := by have := hd.few.2; omega
  obtain ⟨r, hr⟩ : ∃ r : Nat, m.regs = (r : Int) := ⟨m.regs.toNat, by have := hd.regs.1; omega⟩
  have hr2 : r ≤ 2 := by have := hd.regs.2; omega
  obtain ⟨vs, hvs, hrv, hrows⟩ := hst
  have hvl : vs.length = n := by rw [hn, ← hvs, List.length_map]
  obtain ⟨sa, sc, rfl⟩ := RowV.shape hrv
  have HROWS := Lib.hid hrows
  have HVS := Lib.hid hvs
  have HD := Lib.hid hd
  have HVL := Lib.hid hvl
  have HR := Lib.hid hr
  have HT := Lib.hid h
  rw [← hn] at hrv
  have HRV := Lib.hid hrv
  have HNN : Hid (m.states.length = n) := Lib.hid hn.symm
  clear hrv hrows hvs hd hvl hr h hn
  unfold machV
  rw [HNN.out]
  go_enter Try.func15, Try.ntmps15
  go_upto_region 2 with fail
  have hi0 := (RowAt.made w 28 (mboxC m (.slice sa n sc)) #[.int .i64 m.regs, .int .i64 m.data, .int .i64 m.plain, .slice sa n sc] rfl)
  have f1 : Frm [] w (w.alloc (.cells #[.int .i64 m.regs, .int .i64 m.data, .int .i64 m.plain, .slice sa n sc] 28)) := (Frm.refl [] w).alloc _
  generalize hV1 : w.alloc (.cells #[.int .i64 m.regs, .int .i64 m.data, .int .i64 m.plain, .slice sa n sc] 28) = V1 at *
  have hs1 : V1.heap.size = w.heap.size + 1 := by rw [← hV1]; simp
  have hz2 := RowAt.made V1 28 mZero.toList #[.int .i64 0, .int .i64 0, .int .i64 0, .slice none 0 0] rfl
  have f2 : Frm [] V1 (V1.alloc (.cells #[.int .i64 0, .int .i64 0, .int .i64 0, .slice none 0 0] 28)) := (Frm.refl [] V1).alloc _
  generalize hV2 : V1.alloc (.cells #[.int .i64 0, .int .i64 0, .int .i64 0, .slice none 0 0] 28) = V2 at *
  have hs2 : V2.heap.size = w.heap.size + 1 + 1 := by rw [← hV2]; simp [hs1]
  have hq3 := RowAt.made V2 28 (mboxC m (.slice sa n sc)) #[.int .i64 m.regs, .int .i64 m.data, .int .i64 m.plain, .slice sa n sc] rfl
  have f3 : Frm [] V2 (V2.alloc (.cells #[.int .i64 m.regs, .int .i64 m.data, .int .i64 m.plain, .slice sa n sc] 28)) := (Frm.refl [] V2).alloc _
  generalize hV3 : V2.alloc (.cells #[.int .i64 m.regs, .int .i64 m.data, .int .i64 m.plain, .slice sa n sc] 28) = V3 at *
  have hs3 : V3.heap.size = w.heap.size + 1 + 1 + 1 := by rw [← hV3]; simp [hs2]
  rw [hs1] at hz2
  rw [hs2] at hq3
  have HI := Lib.hid ((hi0.frm f2 (by simp)).frm f3 (by simp))
  have HZ := Lib.hid (hz2.frm f3 (by simp))
  have HQ := Lib.hid hq3
  have HF := Lib.hid ((f1.trans f2 (by simp)).trans f3 (by simp))
  clear hV1 hV2 hV3 hs1 hs2 f1 f2 f3 hi0 hz2 hq3
  have i0 := HI.out.cell (i := 0) rfl
  have i3 := HI.out.cell (i := 3) rfl
  have q3 := HQ.out.cell (i := 3) rfl
  have z3 := HQ.out.frozen 3
  have HS3 := Lib.hid hs3
  have lt0 : w.heap.size < V3.heap.size := by omega
  have lt2 : w.heap.size + 1 + 1 < V3.heap.size := by omega
  clear hs3
  have HONE : Hid (∀ u ∈ vs.map (·.1), u.oneCell' = true) := Lib.hid (fun u hu => by
    obtain ⟨p, hp, rfl⟩ := List.mem_map.1 hu
    obtain ⟨_, _, h9, _⟩ := HROWS.out p hp
    obtain ⟨_, _, e9⟩ := RowV.shape h9
    rw [e9]; rfl)
  go_wp2_with (first | (at_builtin; refine app_row rfl (.tmp 12) (.tmp 14) 26 25 _ 1 24 rfl Try.underlying26 infoAr2 rfl (by decide) (by decide) V3.heap.size 0 (.slice (some ⟨V3.heap.size, 0, none⟩) 0 0) [] rfl (owns_made0 V3 25 1) _ n (vs.map (·.1)) F rfl (RowV.nil (RowV.nil HRV.out HF.out) ((Frm.refl [] V3).alloc _)) HONE.out n (Nat.zero_add n) (by omega) (by simp) ?_; intro a4 c4 w4 own4 hf4 hl4; have F4 : Frm [] V3 w4 := frm_own ((Frm.refl [] V3).alloc _) (owns_made0 V3 25 1) (Nat.le_refl _) hf4; have q4 := F4.cell q3 (by simp); have z4 := F4.frz q3 z3 (by simp)) | fail)
  obtain ⟨g, c, e4, hg4, hcap, hmax, hrow4⟩ := ownsB_some own4 (by omega)
  obtain ⟨rfl, rfl⟩ : a4 = some ⟨g, 0, none⟩ ∧ c4 = c := by simpa using e4
  have hq5 := (HQ.out.frm F4 (by simp)).setCell 3 (.slice (some ⟨g, 0, none⟩) n c4)
  have f5 : Frm [w.heap.size + 1 + 1] w4 (w4.setCell ⟨w.heap.size + 1 + 1, 3, none⟩ (.slice (some ⟨g, 0, none⟩) n c4)) := (Frm.refl _ w4).setCell (.inl (by simp)) _
  generalize w4.setCell ⟨w.heap.size + 1 + 1, 3, none⟩ (.slice (some ⟨g, 0, none⟩) n c4) = W5 at *
  have hgs : w.heap.size + 1 + 1 < g := by have := HS3.out; omega
  have FW5 : Frm [] w W5 := (HF.out.trans F4 (by simp)).trans (f5.mono (fq := [w.heap.size + 1 + 1]) (by simp)) (fun x hx => .inr (by simp at hx; omega)) |> fun h => ⟨h.os, h.tape, h.output, h.size, h.block⟩
  have hCS : CS F B tb N w W5 m n (w.heap.size + 1 + 1) g c4 vs := by
    refine ⟨⟨hq5, FW5.mono (by simp), HT.out.nil FW5, hB, hlt, by omega⟩, (HZ.out.frm F4 (by simp)).frm f5 (by intro h9; simp at h9), ((HI.out.frm F4 (by simp)).frm f5 (by intro h9; simp at h9; omega)).cell (i := 0) rfl, by omega, hgs, hn3, HVL.out, hcap, hmax, ?_, htb, hlow, fun p hp F' hF => ?_⟩
    · have := hrow4.frm f5 (by simp; omega)
      simpa using this
    · exact (HROWS.out p hp).step FW5 (by simp) hF
  clear hq5 f5 FW5 hf4 F4 q4 z4 hrow4 own4 e4 hl4 i0 i3 q3 z3 lt0 lt2 hg4
  generalize hqq : w.heap.size + 1 + 1 = q at *
  clear hqq
  refine (next_any B tb N n W5 hCS.bx.tape hB (by omega) (by omega)).mono ?_
  rintro e6 w6 ⟨⟨sx, rfl, hs6, -⟩, hT6, hf6⟩
  obtain ⟨s, rfl⟩ : ∃ s : Nat, sx = (s : Int) := ⟨sx.toNat, by omega⟩
  have hs : s < n := by omega
  have hC6 := hCS.next hT6 hf6
  clear hT6 hf6 hCS hs6
  have is0 : (0 : Int) ≤ (s : Int) := by omega
  have is1 : (s : Int) < (n : Int) := by omega
  obtain ⟨⟨v0, row0⟩, hv0⟩ : ∃ p, vs[s]? = some p := ⟨_, List.getElem?_eq_getElem (by have := HVL.out; omega)⟩
  have hrow0 : m.states[s]? = some row0 := by rw [← HVS.out, List.getElem?_map, hv0]; rfl
  have hshort : row0.length ≤ 3 := HD.out.short row0 (List.mem_of_getElem? hrow0)
  obtain ⟨l0, hl0, hrv0, hnt0⟩ := hC6.rows _ (List.mem_of_getElem? hv0) ((w.heap.size + 1) :: q :: g :: F) (fun k hk => by have h1 := hC6.o1; have h2 := hC6.o2; simp only [List.mem_cons] at hk; rcases hk with rfl | rfl | rfl | hk; exact .inr (by omega); exact .inr (by omega); exact .inr (by omega); exact .inl hk)
  simp only at hl0 hrv0
  subst hl0
  rw [List.length_map] at hrv0 hshort
  obtain ⟨ra, rc, rfl⟩ := RowV.shape hrv0
  have q3 := hC6.bx.row.cell (i := 3) rfl
  have g0 := hC6.row.cell (i := s) (v := .slice ra l0.length rc) (by rw [List.getElem?_map, hv0]; rfl)
  have HC6 := Lib.hid hC6
  have HRV0 := Lib.hid hrv0
  have HROW0 := Lib.hid hrow0
  have HNT0 := Lib.hid hnt0
  have hg6 := hC6.row.lt
  have hq6 : q < w6.heap.size := by have := hC6.o2; omega
  have ONEC : Hid (∀ u ∈ rowC l0, u.oneCell' = true) := Lib.hid (rowC_one hrv0 hnt0)
  have HV0 := Lib.hid hv0
  clear hC6 hrv0 hrow0 hv0 hnt0
  go_wp2_with (first | (at_builtin; refine app_row rfl (.tmp 22) (.tmp 27) 25 24 _ 6 64 rfl Try.underlying25 infoArc rfl (by decide) (by decide) w6.heap.size 0 (.slice (some ⟨w6.heap.size, 0, none⟩) 0 0) [] rfl (owns_made0 w6 24 6) _ l0.length (rowC l0) ((w.heap.size + 1) :: q :: g :: F) rfl (RowV.nil HRV0.out ((Frm.refl [] w6).alloc _)) ONEC.out l0.length (Nat.zero_add _) (by omega) (by simp) ?_; intro a7 c7 w7 own7 hf7 hl7; have F7 : Frm [] w6 w7 := frm_own ((Frm.refl [] w6).alloc _) (owns_made0 w6 24 6) (Nat.le_refl _) hf7; have q7 := F7.cell q3 (by simp); have b7 := ((HC6.out.nil F7).bx.row.cell (i := 0) rfl); have in7 := (HC6.out.nil F7).inp) | fail)
  have hC7 := HC6.out.nil F7
  have hg7 : g + 1 ≤ w6.heap.size := by have := HC6.out.row.lt; omega
  have hR7 : RS ((w.heap.size + 1) :: q :: g :: F) g w7 (.slice a7 l0.length c7) l0 := ⟨ownsB_mono (by simpa using own7) hg7, fun p hp => RowV.step (HNT0.out p hp) F7 (by simp) (fun k hk => by
    rcases List.mem_append.1 hk with hk | hk
    · exact .inl hk
    · exact .inr (own7.lt k (Option.mem_toList.1 hk)).1)⟩
  clear own7 hf7 hl7 F7 q7 b7 in7 q3 g0 HNT0 HRV0 ONEC hg6 hq6
  rw [HR.out]
  refine (arc_any B tb (N + 1) r n norm w7 hC7.bx.tape hB (by omega) (by omega) hn1 (by omega)).mono ?_
  rintro e8 w8 ⟨va, a, rfl, hna, harc, hT8, hf8⟩
  obtain ⟨na, nc, rfl⟩ := RowV.shape (hna [] (by simp))
  have hC8 := hC7.next hT8 hf8
  have HTBG : Hid (tb ∈ (w.heap.size + 1) :: q :: g :: F) := Lib.hid (by simp [hC7.tbF])
  have hR8 := hR7.next hf8 HTBG.out (by have := hC7.bx.lt; have := hC7.o1; have := hC7.o2; omega)
  have hNA : NotAt w8 (((w.heap.size + 1) :: q :: g :: F) ++ (Value.slice a7 l0.length c7).ownBlock.toList) (.slice na a.not.length nc) a := hna _ (fun x hx => by
    have e1 := hC7.bx.lt
    have e2 := hC7.bx.frm.size
    have e3 := hC7.res.lt
    have e4 := hC7.row.lt
    have e5 := hC7.bx.row.lt
    have e6 := hC7.low
    rcases List.mem_append.1 hx with hx | hx
    · simp only [List.mem_cons] at hx
      rcases hx with rfl | rfl | rfl | hx
      · exact e3
      · exact e5
      · exact e4
      · have := e6 x hx; omega
    · exact (hR7.own.lt x (Option.mem_toList.1 hx)).2)
  clear hna hT8 hf8 hC7 hR7
  unfold arcV
  have F9 : Frm [] w8 (w8.alloc (.cells #[.int .i64 a.kind, .int .i64 a.ch, .int .i64 a.reg, .int .i64 a.frm, .slice na a.not.length nc, .int .i64 a.to] 24)) := (Frm.refl [] w8).alloc _
  have HX9 := Lib.hid (RowAt.made w8 24 [.int .i64 a.kind, .int .i64 a.ch, .int .i64 a.reg, .int .i64 a.frm, .slice na a.not.length nc, .int .i64 a.to] #[.int .i64 a.kind, .int .i64 a.ch, .int .i64 a.reg, .int .i64 a.frm, .slice na a.not.length nc, .int .i64 a.to] rfl)
  have HC9 := Lib.hid (hC8.nil F9)
  have HR9 := Lib.hid (hR8.nil F9)
  have HNA := Lib.hid (RowV.nil hNA F9)
  have HARC := Lib.hid harc
  have HX6 : Hid (∀ k, (Value.slice a7 l0.length c7).ownBlock = some k → k < w8.heap.size) := Lib.hid (fun k hk => (hR8.own.lt k hk).2)
  have HGX : Hid (g < w8.heap.size) := Lib.hid hC8.row.lt
  clear hC8 hR8 hNA F9 harc
  have hsh9 : l0.length ≤ 3 := hshort
  have HSH := Lib.hid hsh9
  by_cases hl : l0 = []
  · subst hl
    simp only [List.length_nil] at *
    have HNB := HNA
    go_wp2_with (first | (at_builtin; refine app_row rfl (.tmp 52) (.tmp 54) 25 24 _ 6 64 rfl Try.underlying25 infoArc rfl (by decide) (by decide) (g + 1) 0 _ (rowC ([] : List (Value × RA))) rfl (HR9.out.own.alloc _) _ 1 (arcC (.slice na a.not.length nc, a)) [] rfl (rowV_cells (size := 6) (row_made1 w8 _ 24 (arcC (.slice na a.not.length nc, a)) _ rfl) rfl (Nat.le_refl _) (by decide) (by simp)) (by simp [arcC, Value.oneCell']) (0 + 1) rfl (by have := HSH.out; omega) (by have := HGX.out; simp; omega) ?_; intro b9 d9 w9 own9 hf9 hl9; have hob : ∀ k ∈ (Value.slice a7 0 c7).ownBlock.toList, g < k := fun k hk => Nat.lt_of_lt_of_le (Nat.lt_succ_self g) (HR9.out.own.lt k (Option.mem_toList.1 hk)).1; have hCA := (HC9.out.nil ((Frm.refl [] (w8.alloc (.cells #[.int .i64 a.kind, .int .i64 a.ch, .int .i64 a.reg, .int .i64 a.frm, .slice na a.not.length nc, .int .i64 a.to] 24))).alloc _)).turn hf9 hob; have hRA := HR9.out.app (p := (.slice na a.not.length nc, a)) ((Frm.refl [] (w8.alloc (.cells #[.int .i64 a.kind, .int .i64 a.ch, .int .i64 a.reg, .int .i64 a.frm, .slice na a.not.length nc, .int .i64 a.to] 24))).alloc _) own9 hf9 hl9 HNB.out; have k3 := hCA.bx.row.cell (i := 3) rfl; have k0 := hCA.bx.row.cell (i := 0) rfl; have k1 := hCA.bx.row.cell (i := 1) rfl; have k2 := hCA.bx.row.cell (i := 2) rfl; have kg := hCA.row.cell (i := s) (v := .slice ra 0 rc) (by rw [List.getElem?_map, HV0.out]; rfl); have kz := hCA.row.frozen s; have r0 := hCA.res.cell (i := 0) rfl; have r1 := hCA.res.cell (i := 1) rfl; have r2 := hCA.res.cell (i := 2) rfl; have r3 := hCA.res.cell (i := 3) rfl; have y0 := hCA.res.frozen 0; have y1 := hCA.res.frozen 1; have y2 := hCA.res.frozen 2; have y3 := hCA.res.frozen 3; have nn1 := hCA.o1; have nn2 := hCA.o2; have nn3 : ¬ q = g := (by omega); have nn4 : ¬ w.heap.size + 1 = g := (by omega); have nn5 : ¬ w.heap.size + 1 = q := (by omega); have nn6 : ¬ g = w.heap.size + 1 := (by omega); have nn7 : ¬ q = w.heap.size + 1 := (by omega); have nn8 : ¬ g = q := (by omega)) | fail)
    clear r0 r1 r2 r3 y0 y1 y2 y3 k0 k1 k2 k3 kg kz
    have hch := changed_mk (s := s) (vs := vs) (l := [(.slice na a.not.length nc, a)]) (l0 := ([] : List (Value × RA))) HD.out HVS.out HNN.out HR.out HROW0.out (by simp) (fun x hx => by (obtain rfl : x = a := (by simpa using hx)); exact .inr HARC.out)
    have ho : RowAt (((((w9.setCell ⟨g, s, none⟩ (.slice b9 (0 + 1) d9)).setCell ⟨w.heap.size + 1, 0, none⟩ (.int .i64 m.regs)).setCell ⟨w.heap.size + 1, 1, none⟩ (.int .i64 m.data)).setCell ⟨w.heap.size + 1, 2, none⟩ (.int .i64 m.plain)).setCell ⟨w.heap.size + 1, 3, none⟩ (.slice (some ⟨g, 0, none⟩) n c4)) (w.heap.size + 1) 28 [.int .i64 m.regs, .int .i64 m.data, .int .i64 m.plain, .slice (some ⟨g, 0, none⟩) n c4] := ((((hCA.res.other (.slice b9 (0 + 1) d9) nn4).setCell 0 _).setCell 1 _).setCell 2 _).setCell 3 _
    have hF := (((((Frm.refl [w.heap.size + 1] (w9.setCell ⟨g, s, none⟩ (.slice b9 (0 + 1) d9))).setCell (p := ⟨w.heap.size + 1, 0, none⟩) (.inl (by simp)) (.int .i64 m.regs)).setCell (p := ⟨w.heap.size + 1, 1, none⟩) (.inl (by simp)) (.int .i64 m.data)).setCell (p := ⟨w.heap.size + 1, 2, none⟩) (.inl (by simp)) (.int .i64 m.plain)).setCell (p := ⟨w.heap.size + 1, 3, none⟩) (.inl (by simp)) (.slice (some ⟨g, 0, none⟩) n c4))
    have hfin := hCA.fin (N := N) hRA (by omega) HNN.out hch _ hF
    generalize (((((w9.setCell ⟨g, s, none⟩ (.slice b9 (0 + 1) d9)).setCell ⟨w.heap.size + 1, 0, none⟩ (.int .i64 m.regs)).setCell ⟨w.heap.size + 1, 1, none⟩ (.int .i64 m.data)).setCell ⟨w.heap.size + 1, 2, none⟩ (.int .i64 m.plain)).setCell ⟨w.heap.size + 1, 3, none⟩ (.slice (some ⟨g, 0, none⟩) n c4)) = W9 at *
    have e0 := ho.cell (i := 0) rfl
    have e1 := ho.cell (i := 1) rfl
    have e2 := ho.cell (i := 2) rfl
    have e3 := ho.cell (i := 3) rfl
    refine bodyPost_ret (v := machV (Chunk m vs s ([(.slice na a.not.length nc, a)])) (.slice (some ⟨g, 0, none⟩) n c4)) (by simp [results, Try.results15, go_sem, e0, e1, e2, e3, machV, Chunk]) rfl hfin
  · have hpos : 0 < l0.length := List.length_pos_iff.2 hl
    obtain ⟨g9, cp9, e9, hg9, hcap9, hmax9, _⟩ := ownsB_some HR9.out.own hpos
    obtain ⟨rfl, rfl⟩ : a7 = some ⟨g9, 0, none⟩ ∧ c7 = cp9 := by simpa using e9
    have il : (0 : Int) < (l0.length : Int) := by omega
    have HPOS := Lib.hid hpos
    clear hl hpos e9 hcap9 hmax9 hshort hsh9
    go_wp2_with fail
    have hn2 := next_any B tb (N + 1 + 10) 2 _ HC9.out.bx.tape hB (by omega) (by omega)
    have HG8 : Hid (g9 < w8.heap.size) := Lib.hid (HX6.out g9 rfl)
    have HT8 : Hid (tb < w8.heap.size) := Lib.hid (by have h1 := HC9.out.bx.lt; have h2 := HC9.out.o1; have h3 := HC9.out.o2; have h4 := HGX.out; omega)
    generalize w8.alloc (.cells #[.int .i64 a.kind, .int .i64 a.ch, .int .i64 a.reg, .int .i64 a.frm, .slice na a.not.length nc, .int .i64 a.to] 24) = W8 at *
    generalize w8.heap.size = x8 at *
    refine hn2.mono ?_
    rintro e10 w10 ⟨⟨d, rfl, hd, -⟩, hT10, hf10⟩
    have HC10 := Lib.hid (HC9.out.next hT10 hf10)
    have HR10 := Lib.hid (HR9.out.next hf10 HTBG.out (by have h1 := HC9.out.bx.lt; have h2 := HC9.out.o1; have h3 := HC9.out.o2; omega))
    have HX10 := Lib.hid (HX9.out.frm hf10 (by have := HT8.out; simp; omega))
    have HNB := Lib.hid (RowV.step HNA.out hf10 (fun k hk => .inl (List.mem_append_left _ (by rw [List.mem_singleton.1 hk]; exact HTBG.out))) (fun k hk => .inl hk))
    clear hT10 hf10 hn2 HC9 HR9 HX9 HNA
    by_cases hd0 : d = 0
    · subst hd0
      have a0 := HX10.out.cell (i := 0) rfl
      have a1 := HX10.out.cell (i := 1) rfl
      have a2 := HX10.out.cell (i := 2) rfl
      have a3 := HX10.out.cell (i := 3) rfl
      have a4 := HX10.out.cell (i := 4) rfl
      have a5 := HX10.out.cell (i := 5) rfl
      clear hd
      go_wp2_with fail
      have KEEP : Hid (∀ (w' : World), Frm [tb] w10 w' → w'.cell? ⟨x8, 0, none⟩ = some (.int .i64 a.kind) ∧ w'.cell? ⟨x8, 1, none⟩ = some (.int .i64 a.ch) ∧ w'.cell? ⟨x8, 2, none⟩ = some (.int .i64 a.reg) ∧ w'.cell? ⟨x8, 3, none⟩ = some (.int .i64 a.frm) ∧ w'.cell? ⟨x8, 4, none⟩ = some (.slice na a.not.length nc) ∧ w'.cell? ⟨x8, 5, none⟩ = some (.int .i64 a.to)) := Lib.hid fun w' hf => by
        have hx := HX10.out.frm hf (by have := HT8.out; simp; omega)
        exact ⟨hx.cell (i := 0) rfl, hx.cell (i := 1) rfl, hx.cell (i := 2) rfl, hx.cell (i := 3) rfl, hx.cell (i := 4) rfl, hx.cell (i := 5) rfl⟩
      have HDR : Hid (Frm [] w10 w10.drew) := Lib.hid (Frm.refl [] w10).drew
      refine' wp_region_last (L := 7) _ (fun w' => w'.cell? ⟨x8, 0, none⟩ = some (.int .i64 a.kind) ∧ w'.cell? ⟨x8, 1, none⟩ = some (.int .i64 a.ch) ∧ w'.cell? ⟨x8, 2, none⟩ = some (.int .i64 a.reg) ∧ w'.cell? ⟨x8, 3, none⟩ = some (.int .i64 a.frm) ∧ w'.cell? ⟨x8, 4, none⟩ = some (.slice na a.not.length nc) ∧ w'.cell? ⟨x8, 5, none⟩ = some (.int .i64 a.to)) (by kernel_rfl) rfl rfl rfl rfl ?he (by kernel_rfl) (by kernel_rfl) ?hS ?h
      case he =>
        simp only [nopOf, List.getElem_toArray, List.getElem_cons_succ, List.getElem_cons_zero, List.setIfInBounds_toArray, List.set_cons_succ, List.set_cons_zero]
        rfl
      case hS => exact KEEP.out _ (HDR.out.mono (by simp))
      intro hHeld
      refine wpAnyH_take (i := 0) (v := ?_) rfl (by kernel_rfl) (by kernel_rfl) (by kernel_rfl) (fun _ _ _ h => h) (Or.inl ⟨by rfl, ?_⟩) (by assumption) ?_
      rotate_left
      · intro w9 hS9
        try dsimp only at hS9
        go_split_ands
        go_simp
        try with_reducible rfl
      try simp only [Act.put, List.getElem_toArray, List.getElem_cons_succ, List.getElem_cons_zero, List.setIfInBounds_toArray, List.set_cons_zero, List.set_cons_succ]
      refine wpAnyH_take (i := 1) (v := ?_) rfl (by kernel_rfl) (by kernel_rfl) (by kernel_rfl) (fun _ _ _ h => h) (Or.inl ⟨by rfl, ?_⟩) (by assumption) ?_
      rotate_left
      · intro w9 hS9
        try dsimp only at hS9
        go_split_ands
        go_simp
        try with_reducible rfl
      try simp only [Act.put, List.getElem_toArray, List.getElem_cons_succ, List.getElem_cons_zero, List.setIfInBounds_toArray, List.set_cons_zero, List.set_cons_succ]
      refine wpAnyH_take (i := 2) (v := ?_) rfl (by kernel_rfl) (by kernel_rfl) (by kernel_rfl) (fun _ _ _ h => h) (Or.inl ⟨by rfl, ?_⟩) (by assumption) ?_
      rotate_left
      · intro w9 hS9
        try dsimp only at hS9
        go_split_ands
        go_simp
        try with_reducible rfl
      try simp only [Act.put, List.getElem_toArray, List.getElem_cons_succ, List.getElem_cons_zero, List.setIfInBounds_toArray, List.set_cons_zero, List.set_cons_succ]
      refine wpAnyH_take (i := 3) (v := ?_) rfl (by kernel_rfl) (by kernel_rfl) (by kernel_rfl) (fun _ _ _ h => h) (Or.inl ⟨by rfl, ?_⟩) (by assumption) ?_
      rotate_left
      · intro w9 hS9
        try dsimp only at hS9
        go_split_ands
        go_simp
        try with_reducible rfl
      try simp only [Act.put, List.getElem_toArray, List.getElem_cons_succ, List.getElem_cons_zero, List.setIfInBounds_toArray, List.set_cons_zero, List.set_cons_succ]
      refine wpAnyH_take (i := 5) (v := ?_) rfl (by kernel_rfl) (by kernel_rfl) (by kernel_rfl) (fun _ _ _ h => h) (Or.inl ⟨by rfl, ?_⟩) (by assumption) ?_
      rotate_left
      · intro w9 hS9
        try dsimp only at hS9
        go_split_ands
        go_simp
        try with_reducible rfl
      try simp only [Act.put, List.getElem_toArray, List.getElem_cons_succ, List.getElem_cons_zero, List.setIfInBounds_toArray, List.set_cons_zero, List.set_cons_succ]
      refine wpAnyH_ready (rs := [4]) (by kernel_rfl) (by simp) ?_
      refine AllReadyH.cons rfl (fun K hK => ?_) AllReadyH.nil
      go_simp
      refine (next_any B tb (N + 1 + 10 + 1) l0.length w10.drew (HC10.out.nil HDR.out).bx.tape hB (by omega) (by have := HSH.out; omega)).mono ?_
      rintro e11 w11 ⟨⟨ix, rfl, hix, -⟩, hT11, hf11⟩
      obtain ⟨i, rfl⟩ : ∃ i : Nat, ix = (i : Int) := ⟨ix.toNat, by have := HPOS.out; omega⟩
      have hi : i < l0.length := by have := HPOS.out; omega
      have HF11 : Hid (Frm [tb] w10 w11) := Lib.hid ((HDR.out.mono (by simp)).trans hf11 (fun x hx => .inl hx))
      have HC11 := Lib.hid (HC10.out.next hT11 HF11.out)
      have HR11 := Lib.hid (HR10.out.next HF11.out HTBG.out (by have h1 := HC10.out.bx.lt; have h2 := HC10.out.o1; have h3 := HC10.out.o2; omega))
      have HNC := Lib.hid (RowV.step HNB.out HF11.out (fun k hk => .inl (List.mem_append_left _ (by rw [List.mem_singleton.1 hk]; exact HTBG.out))) (fun k hk => .inl hk))
      clear hix hT11 hf11
      refine hK.out _ _ ?_ (fun hHeld => ?_)
      · exact KEEP.out _ HF11.out
      clear hK K
      try simp only [Act.put, List.getElem_toArray, List.getElem_cons_succ, List.getElem_cons_zero, List.setIfInBounds_toArray, List.set_cons_zero, List.set_cons_succ]
      refine wpAnyH_take (i := 6) (v := ?_) rfl (by kernel_rfl) (by kernel_rfl) (by kernel_rfl) (fun _ _ _ h => h) (Or.inl ⟨by rfl, ?_⟩) (by assumption) ?_
      rotate_left
      · intro w9 hS9
        try dsimp only at hS9
        go_split_ands
        go_simp
        try with_reducible rfl
      try simp only [Act.put, List.getElem_toArray, List.getElem_cons_succ, List.getElem_cons_zero, List.setIfInBounds_toArray, List.set_cons_zero, List.set_cons_succ]
      refine wpAnyH_take (i := 7) (v := ?_) rfl (by kernel_rfl) (by kernel_rfl) (by kernel_rfl) (fun _ _ _ h => h) (Or.inl ⟨by rfl, ?_⟩) (by assumption) ?_
      rotate_left
      · intro w9 hS9
        try dsimp only at hS9
        go_split_ands
        go_simp
        try with_reducible rfl
      try simp only [Act.put, List.getElem_toArray, List.getElem_cons_succ, List.getElem_cons_zero, List.setIfInBounds_toArray, List.set_cons_zero, List.set_cons_succ]
      refine wpAnyH_done (by kernel_rfl) ?_ _
      refine Qt.last rfl rfl ?_
      simp only [List.getElem_toArray, List.getElem_cons_succ, List.getElem_cons_zero]
      obtain ⟨p, hp⟩ : ∃ p, l0[i]? = some p := ⟨_, List.getElem?_eq_getElem hi⟩
      obtain ⟨g10, cp10, e10, _, _, _, hrow11⟩ := ownsB_some HR11.out.own HPOS.out
      obtain ⟨rfl, rfl⟩ : g9 = g10 ∧ c7 = cp10 := by simpa using e10
      have m0 := hrow11.cell (i := i * 6 + 0) (v := .int .i64 p.2.kind) (by rw [rowC_get hp 0 (by omega)]; rfl)
      have m1 := hrow11.cell (i := i * 6 + 1) (v := .int .i64 p.2.ch) (by rw [rowC_get hp 1 (by omega)]; rfl)
      have m2 := hrow11.cell (i := i * 6 + 2) (v := .int .i64 p.2.reg) (by rw [rowC_get hp 2 (by omega)]; rfl)
      have m3 := hrow11.cell (i := i * 6 + 3) (v := .int .i64 p.2.frm) (by rw [rowC_get hp 3 (by omega)]; rfl)
      have m4 := hrow11.cell (i := i * 6 + 4) (v := p.1) (by rw [rowC_get hp 4 (by omega)]; rfl)
      have m5 := hrow11.cell (i := i * 6 + 5) (v := .int .i64 p.2.to) (by rw [rowC_get hp 5 (by omega)]; rfl)
      rw [Nat.add_zero] at m0
      have t0 := hrow11.frozen (i * 6)
      have t1 := hrow11.frozen (i * 6 + 1)
      have t2 := hrow11.frozen (i * 6 + 2)
      have t3 := hrow11.frozen (i * 6 + 3)
      have t4 := hrow11.frozen (i * 6 + 4)
      have t5 := hrow11.frozen (i * 6 + 5)
      have hCA := HC11.out.turn (setW_frm w11 g9 i ((.slice na a.not.length nc : Value), a)) (fun k hk => by simp at hk; omega)
      have hRA := HR11.out.set (g9 := g9) rfl hi (p := ((.slice na a.not.length nc : Value), a)) HNC.out
      unfold setW at hCA hRA
      simp only at hCA hRA
      go_simp
      generalize (((((w11.setCell ⟨g9, i * 6, none⟩ (.int .i64 a.kind)).setCell ⟨g9, i * 6 + 1, none⟩ (.int .i64 a.ch)).setCell ⟨g9, i * 6 + 2, none⟩ (.int .i64 a.reg)).setCell ⟨g9, i * 6 + 3, none⟩ (.int .i64 a.frm)).setCell ⟨g9, i * 6 + 4, none⟩ (.slice na a.not.length nc)).setCell ⟨g9, i * 6 + 5, none⟩ (.int .i64 a.to) = w9 at *
      clear m0 m1 m2 m3 m4 m5 t0 t1 t2 t3 t4 t5 hrow11 e10 hHeld a0 a1 a2 a3 a4 a5
      have k3 := hCA.bx.row.cell (i := 3) rfl
      have k0 := hCA.bx.row.cell (i := 0) rfl
      have k1 := hCA.bx.row.cell (i := 1) rfl
      have k2 := hCA.bx.row.cell (i := 2) rfl
      have kg := hCA.row.cell (i := s) (v := .slice ra l0.length rc) (by rw [List.getElem?_map, HV0.out]; rfl)
      have kz := hCA.row.frozen s
      have r0 := hCA.res.cell (i := 0) rfl
      have r1 := hCA.res.cell (i := 1) rfl
      have r2 := hCA.res.cell (i := 2) rfl
      have r3 := hCA.res.cell (i := 3) rfl
      have y0 := hCA.res.frozen 0
      have y1 := hCA.res.frozen 1
      have y2 := hCA.res.frozen 2
      have y3 := hCA.res.frozen 3
      have nn1 := hCA.o1
      have nn2 := hCA.o2
      have nn3 : ¬ q = g := (by omega)
      have nn4 : ¬ w.heap.size + 1 = g := (by omega)
      have nn5 : ¬ w.heap.size + 1 = q := (by omega)
      have nn6 : ¬ g = w.heap.size + 1 := (by omega)
      have nn7 : ¬ q = w.heap.size + 1 := (by omega)
      have nn8 : ¬ g = q := (by omega)
      go_wp2_with fail
      clear r0 r1 r2 r3 y0 y1 y2 y3 k0 k1 k2 k3 kg kz
      have hch := changed_mk (s := s) (vs := vs) (l := l0.set i ((.slice na a.not.length nc : Value), a)) (l0 := l0) HD.out HVS.out HNN.out HR.out HROW0.out (by have := HSH.out; rw [List.length_set]; omega) (fun x hx => by rw [List.map_set] at hx; rcases List.mem_or_eq_of_mem_set hx with hx | rfl; exact .inl hx; exact .inr HARC.out)
      have ho : RowAt (((((w9.setCell ⟨g, s, none⟩ (.slice (some ⟨g9, 0, none⟩) l0.length c7)).setCell ⟨w.heap.size + 1, 0, none⟩ (.int .i64 m.regs)).setCell ⟨w.heap.size + 1, 1, none⟩ (.int .i64 m.data)).setCell ⟨w.heap.size + 1, 2, none⟩ (.int .i64 m.plain)).setCell ⟨w.heap.size + 1, 3, none⟩ (.slice (some ⟨g, 0, none⟩) n c4)) (w.heap.size + 1) 28 [.int .i64 m.regs, .int .i64 m.data, .int .i64 m.plain, .slice (some ⟨g, 0, none⟩) n c4] := ((((hCA.res.other (.slice (some ⟨g9, 0, none⟩) l0.length c7) nn4).setCell 0 _).setCell 1 _).setCell 2 _).setCell 3 _
      have hF := (((((Frm.refl [w.heap.size + 1] (w9.setCell ⟨g, s, none⟩ (.slice (some ⟨g9, 0, none⟩) l0.length c7))).setCell (p := ⟨w.heap.size + 1, 0, none⟩) (.inl (by simp)) (.int .i64 m.regs)).setCell (p := ⟨w.heap.size + 1, 1, none⟩) (.inl (by simp)) (.int .i64 m.data)).setCell (p := ⟨w.heap.size + 1, 2, none⟩) (.inl (by simp)) (.int .i64 m.plain)).setCell (p := ⟨w.heap.size + 1, 3, none⟩) (.inl (by simp)) (.slice (some ⟨g, 0, none⟩) n c4))
      have hfin := hCA.fin (N := N) hRA (by omega) HNN.out hch _ hF
      generalize (((((w9.setCell ⟨g, s, none⟩ (.slice (some ⟨g9, 0, none⟩) l0.length c7)).setCell ⟨w.heap.size + 1, 0, none⟩ (.int .i64 m.regs)).setCell ⟨w.heap.size + 1, 1, none⟩ (.int .i64 m.data)).setCell ⟨w.heap.size + 1, 2, none⟩ (.int .i64 m.plain)).setCell ⟨w.heap.size + 1, 3, none⟩ (.slice (some ⟨g, 0, none⟩) n c4)) = W9 at *
      have e0 := ho.cell (i := 0) rfl
      have e1 := ho.cell (i := 1) rfl
      have e2 := ho.cell (i := 2) rfl
      have e3 := ho.cell (i := 3) rfl
      refine bodyPost_ret (v := machV (Chunk m vs s (l0.set i ((.slice na a.not.length nc : Value), a))) (.slice (some ⟨g, 0, none⟩) n c4)) (by simp [results, Try.results15, go_sem, e0, e1, e2, e3, machV, Chunk]) rfl hfin
    · have hd1 : ¬ d = 0 := hd0
      have a0 := HX10.out.cell (i := 0) rfl
      have a1 := HX10.out.cell (i := 1) rfl
      have a2 := HX10.out.cell (i := 2) rfl
      have a3 := HX10.out.cell (i := 3) rfl
      have a4 := HX10.out.cell (i := 4) rfl
      have a5 := HX10.out.cell (i := 5) rfl
      go_wp2_with (first | (at_builtin; refine app_row rfl (.tmp 52) (.tmp 54) 25 24 _ 6 64 rfl Try.underlying25 infoArc rfl (by decide) (by decide) (g + 1) l0.length _ (rowC l0) rfl (HR10.out.own.alloc _) _ 1 (arcC (.slice na a.not.length nc, a)) [] rfl (rowV_cells (size := 6) (RowAt.made w10 24 (arcC (.slice na a.not.length nc, a)) _ rfl) rfl (Nat.le_refl _) (by decide) (by simp)) (by simp [arcC, Value.oneCell']) (l0.length + 1) rfl (by have := HSH.out; omega) (by have := HC10.out.row.lt; simp; omega) ?_; intro b9 d9 w9 own9 hf9 hl9; have hob : ∀ k ∈ (Value.slice (some ⟨g9, 0, none⟩) l0.length c7).ownBlock.toList, g < k := fun k hk => Nat.lt_of_lt_of_le (Nat.lt_succ_self g) (HR10.out.own.lt k (Option.mem_toList.1 hk)).1; have hCA := (HC10.out.nil ((Frm.refl [] w10).alloc _)).turn hf9 hob; have hRA := HR10.out.app (p := (.slice na a.not.length nc, a)) ((Frm.refl [] w10).alloc _) own9 hf9 hl9 HNB.out; have k3 := hCA.bx.row.cell (i := 3) rfl; have k0 := hCA.bx.row.cell (i := 0) rfl; have k1 := hCA.bx.row.cell (i := 1) rfl; have k2 := hCA.bx.row.cell (i := 2) rfl; have kg := hCA.row.cell (i := s) (v := .slice ra l0.length rc) (by rw [List.getElem?_map, HV0.out]; rfl); have kz := hCA.row.frozen s; have r0 := hCA.res.cell (i := 0) rfl; have r1 := hCA.res.cell (i := 1) rfl; have r2 := hCA.res.cell (i := 2) rfl; have r3 := hCA.res.cell (i := 3) rfl; have y0 := hCA.res.frozen 0; have y1 := hCA.res.frozen 1; have y2 := hCA.res.frozen 2; have y3 := hCA.res.frozen 3; have nn1 := hCA.o1; have nn2 := hCA.o2; have nn3 : ¬ q = g := (by omega); have nn4 : ¬ w.heap.size + 1 = g := (by omega); have nn5 : ¬ w.heap.size + 1 = q := (by omega); have nn6 : ¬ g = w.heap.size + 1 := (by omega); have nn7 : ¬ q = w.heap.size + 1 := (by omega); have nn8 : ¬ g = q := (by omega)) | fail)
      clear r0 r1 r2 r3 y0 y1 y2 y3 k0 k1 k2 k3 kg kz
      have hch := changed_mk (s := s) (vs := vs) (l := l0 ++ [(.slice na a.not.length nc, a)]) (l0 := l0) HD.out HVS.out HNN.out HR.out HROW0.out (by have := HSH.out; simp; omega) (fun x hx => by rw [List.map_append, List.mem_append] at hx; rcases hx with hx | hx; exact .inl hx; (obtain rfl : x = a := by simpa using hx); exact .inr HARC.out)
      have ho : RowAt (((((w9.setCell ⟨g, s, none⟩ (.slice b9 (l0.length + 1) d9)).setCell ⟨w.heap.size + 1, 0, none⟩ (.int .i64 m.regs)).setCell ⟨w.heap.size + 1, 1, none⟩ (.int .i64 m.data)).setCell ⟨w.heap.size + 1, 2, none⟩ (.int .i64 m.plain)).setCell ⟨w.heap.size + 1, 3, none⟩ (.slice (some ⟨g, 0, none⟩) n c4)) (w.heap.size + 1) 28 [.int .i64 m.regs, .int .i64 m.data, .int .i64 m.plain, .slice (some ⟨g, 0, none⟩) n c4] := ((((hCA.res.other (.slice b9 (l0.length + 1) d9) nn4).setCell 0 _).setCell 1 _).setCell 2 _).setCell 3 _
      have hF := (((((Frm.refl [w.heap.size + 1] (w9.setCell ⟨g, s, none⟩ (.slice b9 (l0.length + 1) d9))).setCell (p := ⟨w.heap.size + 1, 0, none⟩) (.inl (by simp)) (.int .i64 m.regs)).setCell (p := ⟨w.heap.size + 1, 1, none⟩) (.inl (by simp)) (.int .i64 m.data)).setCell (p := ⟨w.heap.size + 1, 2, none⟩) (.inl (by simp)) (.int .i64 m.plain)).setCell (p := ⟨w.heap.size + 1, 3, none⟩) (.inl (by simp)) (.slice (some ⟨g, 0, none⟩) n c4))
      have hfin := hCA.fin (N := N) hRA (by omega) HNN.out hch _ hF
      generalize (((((w9.setCell ⟨g, s, none⟩ (.slice b9 (l0.length + 1) d9)).setCell ⟨w.heap.size + 1, 0, none⟩ (.int .i64 m.regs)).setCell ⟨w.heap.size + 1, 1, none⟩ (.int .i64 m.data)).setCell ⟨w.heap.size + 1, 2, none⟩ (.int .i64 m.plain)).setCell ⟨w.heap.size + 1, 3, none⟩ (.slice (some ⟨g, 0, none⟩) n c4)) = W9 at *
      have e0 := ho.cell (i := 0) rfl
      have e1 := ho.cell (i := 1) rfl
      have e2 := ho.cell (i := 2) rfl
      have e3 := ho.cell (i := 3) rfl
      refine bodyPost_ret (v := machV (Chunk m vs s (l0 ++ [(.slice na a.not.length nc, a)])) (.slice (some ⟨g, 0, none⟩) n c4)) (by simp [results, Try.results15, go_sem, e0, e1, e2, e3, machV, Chunk]) rfl hfin
end Go.Proofs.Ytfndgiinniibfaa.Ind
