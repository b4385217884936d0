/- Contract of Crash of the program's disk. -/
import Derived.Test.YtkebdgbjgbcneaaDO
namespace Go.Proofs.Ytkebdgbjgbcneaa
open Go.RowKit Go.Maps Go.Shelf

section
variable {w w' : World} {d b1 b2 N : Nat} {pv : Value} {bs : Nat → Nat} {vs : Nat → Value} {live : List Nat} {m : DM} {fs : List FM}
theorem FilesAt.put (h : FilesAt w bs vs live fs) {i : Nat} (hi : i ∈ live) {v : Value} {f : FM} (hr : RowAt w' (bs i) 62 [v, .int .i64 (f.safe : Int)]) (hv : BufAt w' v f.data.length f.data) (hf : Frm (bs i :: (vs i).ownBlock.toList) w w') (hn : ∀ k, v.ownBlock = some k → (vs i).ownBlock = some k ∨ w.heap.size ≤ k) :
    FilesAt w' bs (upd vs i v) live (fs.set i f) := by
  have hl := h.lt i hi
  have hoff : ∀ j ∈ live, j ≠ i → bs j ∉ bs i :: (vs i).ownBlock.toList := fun j hj hne hm => by
    rcases List.mem_cons.1 hm with e | e
    · exact hne (h.inj1 j hj i hi e)
    · have := buf_row_ty (h.data i hi) (h.at_ j hj) (by simpa using e)
      exact absurd this (by decide)
  have hoff2 : ∀ j ∈ live, j ≠ i → ∀ k, (vs j).ownBlock = some k → k ∉ bs i :: (vs i).ownBlock.toList := fun j hj hne k hk hm => by
    rcases List.mem_cons.1 hm with e | e
    · have := buf_row_ty (h.data j hj) (h.at_ i hi) (e ▸ hk)
      exact absurd this (by decide)
    · exact hne (h.inj2 j hj i hi k hk (by simpa using e))
  refine ⟨fun j hj => ?_, fun j hj => ?_, fun j hj => ?_, h.inj1, fun j hj j' hj' k e1 e2 => ?_⟩
  · rw [List.length_set]
    exact h.lt j hj
  · rw [fileAt_set hl]
    by_cases e : j = i
    · subst e
      rw [upd_same, if_pos rfl]
      exact hr
    · rw [upd_other _ _ e, if_neg e]
      exact (h.at_ j hj).frm hf (hoff j hj e)
  · rw [fileAt_set hl]
    by_cases e : j = i
    · subst e
      rw [upd_same, if_pos rfl]
      exact hv
    · rw [upd_other _ _ e, if_neg e]
      exact buf_frm (h.data j hj) hf (hoff2 j hj e)
  · by_cases e : j = i
    · by_cases e' : j' = i
      · rw [e, e']
      · exfalso
        rw [e, upd_same] at e1
        rw [upd_other _ _ e'] at e2
        rcases hn k e1 with h9 | h9
        · exact e' (h.inj2 j' hj' i hi k e2 h9)
        · have := h.blocks k (mem_fileB.2 (.inr ⟨j', hj', e2⟩)); omega
    · by_cases e' : j' = i
      · exfalso
        rw [e', upd_same] at e2
        rw [upd_other _ _ e] at e1
        rcases hn k e2 with h9 | h9
        · exact e (h.inj2 j hj i hi k e1 h9)
        · have := h.blocks k (mem_fileB.2 (.inr ⟨j, hj, e1⟩)); omega
      · rw [upd_other _ _ e] at e1
        rw [upd_other _ _ e'] at e2
        exact h.inj2 j hj j' hj' k e1 e2
theorem done_live {live : List Nat} : ∀ (os : List OpM) {l : Dir}, (∀ p ∈ l, p.2 ∈ live) → (∀ o ∈ os, o.kind ≠ 3 → o.file ∈ live) → (∀ o ∈ os, o.kind = 1 ∨ o.kind = 2 ∨ o.kind = 3) → ∀ p ∈ os.foldl doneD l, p.2 ∈ live
  | [], _, h, _, _ => h
  | o :: r, l, h, ho, hk => by
    refine done_live r ?_ (fun x hx => ho x (List.mem_cons_of_mem _ hx)) (fun x hx => hk x (List.mem_cons_of_mem _ hx))
    intro p hp
    rcases hk o List.mem_cons_self with e | e | e
    · rw [doneD, if_pos e] at hp
      rcases mem_withD.1 hp with rfl | ⟨hp, _⟩
      · exact ho o List.mem_cons_self (by omega)
      · exact h p hp
    · rw [doneD, if_neg (by omega), if_pos e] at hp
      rcases mem_withD.1 hp with rfl | ⟨hp, _⟩
      · exact ho o List.mem_cons_self (by omega)
      · exact h p (mem_withoutD.1 hp).1
    · rw [doneD, if_neg (by omega), if_neg (by omega)] at hp
      exact h p (mem_withoutD.1 hp).1
theorem own_cap {a : Option Addr} {n c n' c' k : Nat} (h : (Value.slice a n c).ownBlock = some k) : (Value.slice a n' c').ownBlock = some k := by
  cases a with
  | none => simp [Value.ownBlock] at h
  | some p => simpa [Value.ownBlock] using h
theorem opC_shape (bs : Nat → Nat) (o : OpM) : ∃ (sa sb : Nm) (q : Option Addr), opC bs o = [str sa, str sb, .pointer q] := by
  unfold opC
  split
  · exact ⟨_, _, _, rfl⟩
  · split
    · exact ⟨_, _, _, rfl⟩
    · exact ⟨_, _, _, rfl⟩
theorem meas9 {i n : Nat} (h : i < n) : n - (i + 1) < n - i := by omega
theorem kr_le {k r n t : Nat} (h : t = n - k) (hk : k < n) (hr : r ≤ t) : k + r ≤ n := by omega
theorem t_bnd {k n t : Nat} (h : t = n - k) (hn : n ≤ 4194304) : t ≤ 1000000000 := by omega
theorem t_pos {k n t : Nat} (h : t = n - k) (hk : k < n) : (0 : Int) < (t : Int) := by omega
theorem wrap_add9 {a b : Nat} (h : a + b ≤ 4194304) : IntKind.i64.wrap ((a : Int) + (b : Int)) = ((a + b : Nat) : Int) := by rw [IntWalk.i64_in _ (by omega)]; omega
/-- The bytes that are left of a file. -/
theorem buf_cut {n c k : Nat} {a : Option Addr} {xs : List UInt8} (h : BufAt w (.slice a n c) n xs) (hk : k ≤ n) (hpos : 0 < n) : BufAt w (.slice a k k) k (xs.take k) := by
  have hl := h.1
  refine ⟨by rw [List.length_take]; omega, ?_⟩
  rcases h.2 with ⟨h0, h1⟩ | ⟨g, cp, cur, h0, hg, h1, h2, h3, h4⟩
  · omega
  · simp only [Value.slice.injEq] at h0
    obtain ⟨rfl, _, rfl⟩ := h0
    refine .inr ⟨g, k, cur, rfl, hg, Nat.le_refl _, by omega, by omega, ?_⟩
    have h5 := congrArg (List.take k) h4
    rw [List.take_take, Nat.min_eq_left hk] at h5
    rw [h5, byt, byt, List.map_take]

set_option linter.unusedSimpArgs false in
set_option maxRecDepth 100000 in
set_option maxHeartbeats 4000000 in
theorem crash_any (h : DR w d b1 b2 pv bs vs live m) (ho : DOk N m) (hN : N ≤ 900) {a : Option Addr} {n c : Nat} {keep : List Int} (hk : RdS w.heap.size (fpR d b1 b2 pv bs vs live) w a n c keep) :
    Calls Try.prog 20 #[.pointer (some ⟨d, 0, none⟩), .slice a n c] w fun e w' => e = .returned (.tuple #[]) ∧ PDStep w w' d (fpR d b1 b2 pv bs vs live) (crashM m keep) := by
  obtain ⟨pa, pc, hpv, hpl⟩ := owns_shape h.pend
  subst hpv
  have eg : ∀ args w, (callFunc 36 args).run Try.prog w = .ok (.enter 36 args) w := enters_of Try.func36 (by kernel_rfl) rfl
  have hmf : ∀ (fn : Fn) (first cap : Array Value) (w : World), (Instr.makeFunc fn first cap).run Try.prog w = .ok (.func fn first cap) w := fun _ _ _ _ => rfl
  have HH := Lib.hid h
  have HO := Lib.hid ho
  have HN := Lib.hid hN
  have c2 := h.hd.cell (i := 2) rfl
  have c1 := h.hd.cell (i := 1) rfl
  have z1 := h.hd.frozen 1
  have hdl := h.hd.lt
  have f1 : Frm [d] w ((w.setCell ⟨d, 1, none⟩ (.map (some b2))).alloc (.cells #[.slice a n c] 32)) := ((Frm.refl [d] w).setCell (p := ⟨d, 1, none⟩) (.inl (by simp)) _).alloc _
  have hs1 : (w.setCell ⟨d, 1, none⟩ (.map (some b2))).heap.size = w.heap.size := by simp
  have hne := h.d_ne
  have r1 := RowAt.made (w.setCell ⟨d, 1, none⟩ (.map (some b2))) 32 [.slice a n c] #[.slice a n c] rfl
  rw [hs1] at r1
  have HK1 : Hid (KeepAt w.heap.size (fpR d b1 b2 (.slice pa m.ops.length pc) bs vs live) ((w.setCell ⟨d, 1, none⟩ (.map (some b2))).alloc (.cells #[.slice a n c] 32)) w.heap.size keep 0) := Lib.hid ⟨a, n, c, r1, by rw [List.drop_zero]; exact hk.frm f1 (fun k hk => .inl (by rw [List.mem_singleton] at hk; rw [hk]; exact fpR_d))⟩
  have HD1 := Lib.hid ((h.hd.setCell 1 (.map (some b2))).alloc (.cells #[.slice a n c] 32))
  have F1 := Lib.hid f1
  have HM1 := Lib.hid (h.m2.frm f1 (by simpa using hne.2.1))
  have HP1 := Lib.hid (owns_frm h.pend f1 (fun k hk => by simpa using (h.pend_ne k hk).1))
  have HF1 := Lib.hid (h.files.frm f1 (fun k hk hm => hne.2.2 (by rw [List.mem_singleton] at hm; rw [← hm]; exact hk)))
  clear h ho hN hk f1 r1 hs1 hne
  go_enter Try.func20, Try.ntmps20
  go_wp2_with fail
  have q3 := HD1.out.cell (i := 3) rfl
  obtain ⟨kb, hkb⟩ : ∃ kb, kb = w.heap.size := ⟨_, rfl⟩
  have HKB := Lib.hid hkb
  rw [← hkb] at HK1 ⊢
  generalize (w.setCell ⟨d, 1, none⟩ (.map (some b2))).alloc (.cells #[.slice a n c] 32) = w1 at *
  have hdk : d ≠ kb := by omega
  clear c1 c2 z1 hdl hkb
  obtain ⟨L, hL⟩ : ∃ L, L = m.ops.length := ⟨_, rfl⟩
  have HLL := Lib.hid hL
  have hL9 : L ≤ 900 := by rw [hL]; exact Nat.le_trans HO.out.few2 HN.out
  rw [← hL] at HP1 HD1 q3 hpl
  obtain ⟨n0, hn0⟩ : ∃ n0, n0 = pickM keep 0 % (L + 1) := ⟨_, rfl⟩
  have HN0 := Lib.hid hn0
  have hn0l : n0 ≤ L := by rw [hn0]; have := Nat.mod_lt (pickM keep 0) (show L + 1 > 0 by omega); omega
  have hpc : L ≤ pc := by
    rcases HP1.out.2 with ⟨h8, _⟩ | ⟨g, cp, cur, h8, _, _, h9, _⟩
    · cases h8; omega
    · cases h8; exact h9
  have i1 : (n0 : Int) ≤ (pc : Int) := by omega
  have i2 : (0 : Int) ≤ (n0 : Int) := by omega
  clear hL hn0
  go_region_held3 (fun w' => w'.cell? ⟨d, 3, none⟩ = some (.slice pa L pc)) (first | exact q3 | exact p3) ((go_at_fn 36; refine (next_any2 (HK1.out.frm (by first | exact Frm.refl [] w1 | exact (Frm.refl [] w1).drew | exact (Frm.refl [] w1).drewN _) (by simp) (by simp)) (by have := HKB.out; omega) L (by omega)).mono ?_; rintro e3 w3 ⟨he3, hK3, hf30⟩; rw [← HN0.out] at he3; subst he3; have hf3 : Frm [kb] w1 w3 := Frm.trans (by first | exact Frm.refl [kb] w1 | exact (Frm.refl [kb] w1).drew | exact (Frm.refl [kb] w1).drewN _) hf30 (fun x hx => .inl hx); have p3 := hf3.cell q3 (by simpa using hdk)))
  all_goals
    have HK3 := Lib.hid hK3
    have hkn : kb ∉ fpR d b1 b2 (.slice pa m.ops.length pc) bs vs live := fun hm => by
      have := HH.out.blocks kb hm
      have := HKB.out
      omega
    have HM3 := Lib.hid (HM1.out.frm hf3 (fun hm => hkn (by rw [List.mem_singleton] at hm; rw [← hm]; exact fpR_2)))
    have HP3 := Lib.hid (owns_frm HP1.out hf3 (fun k hk hm => hkn (by rw [List.mem_singleton] at hm; rw [← hm]; exact fpR_p (own_cap hk))))
    have HF3 := Lib.hid (HF1.out.frm hf3 (fun k hk hm => hkn (by
      rw [List.mem_singleton] at hm
      rw [← hm]
      rcases mem_fileB.1 hk with ⟨j, hj, rfl⟩ | ⟨j, hj, e⟩
      · exact fpR_b hj
      · exact fpR_v hj e)))
    have HD3 := Lib.hid (HD1.out.frm hf3 (by simpa using hdk))
    have F3 : Hid (Frm [d] w w3) := Lib.hid (F1.out.trans hf3 (fun x hx => .inr (by rw [List.mem_singleton] at hx; rw [hx, HKB.out]; exact Nat.le_refl _)))
    have HKN := Lib.hid hkn
    have HDK := Lib.hid hdk
    have HN0L := Lib.hid hn0l
    have HL9 := Lib.hid hL9
    have HPC := Lib.hid hpc
    clear hf30 hK3 hkn q3 p3 hf3 HD1 HM1 HP1 HF1 F1 HK1 hdk hn0l hL9 hpc eg hmf
    go_wp2_with fail
    go_loopg [32] n0 (fun q s32 wr => ∃ i : Nat, q = n0 - i ∧ i ≤ n0 ∧ s32 = .int .i64 (i : Int) ∧ MapD wr b2 bs ((m.ops.take i).foldl doneD m.safe) ∧ Frm [b2] w3 wr)
    case atStart => exact ⟨0, rfl, Nat.zero_le _, rfl, by rw [List.take_zero]; exact HM3.out, Frm.refl _ _⟩
    case round =>
      obtain ⟨i, rfl, hi, rfl, hm, hF⟩ := hrel
      have HM := Lib.hid hm
      have HF := Lib.hid hF
      have hszr := hF.size
      have i0 : (0 : Int) ≤ (i : Int) := by omega
      have hL9 := HL9.out
      have hn0l := HN0L.out
      have i900 : i ≤ 900 := by omega
      have hb2d := HH.out.d_ne.2.1
      clear hm hF
      by_cases hil : i < n0
      · have i5 : (i : Int) < (n0 : Int) := by omega
        obtain ⟨o, hoo⟩ : ∃ o, m.ops[i]? = some o := ⟨_, List.getElem?_eq_getElem (by rw [← HLL.out]; omega)⟩
        obtain ⟨sa, sb, pq, hc⟩ := opC_shape bs o
        have hmem := List.mem_of_getElem? hoo
        have hP := owns_frm HP3.out HF.out (fun k hk hm => (HH.out.pend_ne k (own_cap hk)).2.2.1 (by simpa using hm))
        obtain ⟨pg, pcap, hpv, _, _, hprow⟩ := owns_some hP (by omega)
        simp only [Value.slice.injEq] at hpv
        obtain ⟨rfl, _, rfl⟩ := hpv
        have g0 := hprow.cell (i := i * 3) (by have := opsC_get bs hoo 0 (by omega); rw [Nat.add_zero, hc] at this; exact this)
        have g1 := hprow.cell (i := i * 3 + 1) (by have := opsC_get bs hoo 1 (by omega); rw [hc] at this; exact this)
        have g2 := hprow.cell (i := i * 3 + 2) (by have := opsC_get bs hoo 2 (by omega); rw [hc] at this; exact this)
        have hperf : ∀ W, MapD W b2 bs ((m.ops.take i).foldl doneD m.safe) → Calls Try.prog 37 #[.agg #[str sa, str sb, .pointer pq], .map (some b2)] W fun e w' => e = .returned (.tuple #[]) ∧ MapD w' b2 bs (doneD ((m.ops.take i).foldl doneD m.safe) o) ∧ Frm [b2] W w' := fun W hm => by
          have := perform_any hm o (HO.out.ops o hmem) (by have := (HO.out.dirs i).few; omega)
          rwa [hc] at this
        have HPF := Lib.hid hperf
        have hd1 := HD3.out.frm HF.out (by simpa using hb2d.symm)
        have e1 := hd1.cell (i := 1) rfl
        have r5 := RowAt.made wr 65 [str sa, str sb, .pointer pq] #[str sa, str sb, .pointer pq] rfl
        have R5 := Lib.hid r5
        have F5 : Hid (Frm [] wr (wr.alloc (.cells #[str sa, str sb, .pointer pq] 65))) := Lib.hid ((Frm.refl [] wr).alloc _)
        have HD5 := Lib.hid (hd1.frm F5.out (by simp))
        have HTK : Hid ((m.ops.take (i + 1)).foldl doneD m.safe = doneD ((m.ops.take i).foldl doneD m.safe) o) := Lib.hid (by
          rw [List.take_add_one, hoo, List.foldl_append]; rfl)
        have hb2w := HM.out.lt
        have i6 : (i : Int) < (L : Int) := by omega
        have i7 : (L : Int) ≤ (pc : Int) := by have := HPC.out; omega
        clear hoo hc hmem hP hprow hperf hd1 r5
        go_wp2_with fail
        clear e1 g0 g1 g2
        have M5 := Lib.hid (HM.out.frm F5.out (by simp))
        obtain ⟨x5, hx5⟩ : ∃ x, x = wr.heap.size := ⟨_, rfl⟩
        rw [← hx5] at R5 ⊢
        have HX5 : Hid (x5 ≠ b2 ∧ wr.heap.size ≤ x5) := Lib.hid (by omega)
        generalize wr.alloc (.cells #[str sa, str sb, .pointer pq] 65) = w5 at *
        have p0 := R5.out.cell (i := 0) rfl
        have p1 := R5.out.cell (i := 1) rfl
        have p2 := R5.out.cell (i := 2) rfl
        have e1 := HD5.out.cell (i := 1) rfl
        clear hx5
        go_region_held3 (fun w' => w'.cell? ⟨x5, 0, none⟩ = some (str sa) ∧ w'.cell? ⟨x5, 1, none⟩ = some (str sb) ∧ w'.cell? ⟨x5, 2, none⟩ = some (.pointer pq) ∧ w'.cell? ⟨d, 1, none⟩ = some (.map (some b2))) (first | exact ⟨p0, p1, p2, e1⟩ | exact ⟨s0, s1, s2, t1⟩) ((go_at_call 37; refine (HPF.out _ (M5.out.frm (by first | exact Frm.refl [] w5 | exact (Frm.refl [] w5).drew | exact (Frm.refl [] w5).drewN _) (by simp))).mono ?_; rintro e6 w6 ⟨rfl, hm6, hf60⟩; have hf6 : Frm [b2] w5 w6 := Frm.trans (by first | exact Frm.refl [b2] w5 | exact (Frm.refl [b2] w5).drew | exact (Frm.refl [b2] w5).drewN _) hf60 (fun x hx => .inl hx); have s0 := hf6.cell p0 (by simpa using HX5.out.1); have s1 := hf6.cell p1 (by simpa using HX5.out.1); have s2 := hf6.cell p2 (by simpa using HX5.out.1); have t1 := hf6.cell e1 (by simpa using hb2d.symm)))
        all_goals
          have HM6 := Lib.hid hm6
          have HF6 := Lib.hid ((HF.out.trans F5.out (by simp)).trans hf6 (fun x hx => .inl hx))
          clear s0 s1 s2 t1 hm6 hf6 hf60 p0 p1 p2 e1
          go_wp2_with fail
          go_roundg (n0 - (i + 1))
          case rel => exact ⟨i + 1, rfl, by omega, by go_num, by rw [HTK.out]; exact HM6.out, HF6.out⟩
          case measure => omega
      · have i5 : ¬ (i : Int) < (n0 : Int) := by omega
        have hi9 : i = n0 := by omega
        obtain ⟨D, hD⟩ : ∃ D, D = crashD m keep := ⟨_, rfl⟩
        have hMD : MapD wr b2 bs D := by rw [hD, crashD, ← HLL.out, ← HN0.out, ← hi9]; exact HM.out
        have hDok : DirOk m.files.length D := by rw [hD]; exact HO.out.crashDir keep
        have hHD := HD3.out.frm HF.out (by simpa using hb2d.symm)
        have hFL := HF3.out.frm HF.out (fun k hk hm => HH.out.map_ne.2 (by rw [List.mem_singleton] at hm; rw [← hm]; exact hk))
        have hKP := HK3.out.frm HF.out (fun k hk => .inl (by rw [List.mem_singleton] at hk; rw [hk]; exact fpR_2)) (fun hm => HKN.out (by rw [List.mem_singleton] at hm; rw [hm]; exact fpR_2))
        have hLV : ∀ p ∈ D, p.2 ∈ live := by rw [hD]; exact done_live _ HH.out.live.safe (fun o ho hk => HH.out.live.ops o (List.mem_of_mem_take ho) hk) (fun o ho => (HO.out.ops o (List.mem_of_mem_take ho)).kinds)
        have FW : Hid (Frm [d, b2] w wr) := Lib.hid ((F3.out.mono (by simp)).trans HF.out (fun x hx => .inl (by rw [List.mem_singleton] at hx; simp [hx])))
        have hnm := names_any (m := { m with dir := D }) (x2 := .map (some b2)) (x3 := .slice pa L pc) hHD hMD hDok
        have hNS : (namesM { m with dir := D }).length = D.length := by rw [namesM, List.length_map]
        obtain ⟨NS, hNSe⟩ : ∃ NS, NS = namesM { m with dir := D } := ⟨_, rfl⟩
        have hNSd : NS = D.map (·.1) := hNSe
        rw [← hNSe] at hnm hNS
        have HD := Lib.hid hD
        have HMD := Lib.hid hMD
        have HDOK := Lib.hid hDok
        have HHD := Lib.hid hHD
        have HFL := Lib.hid hFL
        have HKP := Lib.hid hKP
        have HLV := Lib.hid hLV
        have HNS := Lib.hid hNS
        have HNSD := Lib.hid hNSd
        have hbdd : d ≠ b2 := hb2d.symm
        clear hD hMD hDok hHD hFL hKP hLV hNS hNSe hNSd HM HF HM3 HP3 HF3 HD3 HK3 F3 hi9 hi hil i900 hszr hL9 hn0l
        go_wp2_with fail
        refine hnm.mono ?_
        rintro e8 w8 ⟨⟨na, nc, rfl, hnown⟩, hf8⟩
        rw [HNS.out] at hnown ⊢
        have HNO := Lib.hid hnown
        have F8 := Lib.hid (FW.out.trans hf8 (by simp))
        have HM8 := Lib.hid (HMD.out.frm hf8 (by simp))
        have HD8 := Lib.hid (HHD.out.frm hf8 (by simp))
        have HFL8 := Lib.hid (HFL.out.frm hf8 (by simp))
        have HKP8 := Lib.hid (HKP.out.frm hf8 (by simp) (by simp))
        have hD64 := HDOK.out.few
        obtain ⟨DL, hDL⟩ : ∃ DL, DL = D.length := ⟨_, rfl⟩
        have HDL := Lib.hid hDL
        rw [← hDL] at HNO hD64 ⊢
        clear hnm hnown hf8 HMD HHD HFL HKP FW hDL
        go_wp2_with fail
        go_loopg [46] DL (fun q s46 wr => ∃ (i at_ : Nat) (fs : List FM) (vs' : Nat → Value), q = DL - i ∧ i ≤ DL ∧ s46 = .int .i64 (i : Int) ∧ FilesAt wr bs vs' live fs ∧ fs.length = m.files.length ∧ crashF keep (D.drop i) at_ fs = crashF keep D 1 m.files ∧ (∀ f ∈ fs, f.safe ≤ f.data.length ∧ f.data.length ≤ 4194304) ∧ KeepAt kb (fpR d b1 b2 (.slice pa m.ops.length pc) bs vs live) wr kb keep at_ ∧ (∀ j ∈ live, ∀ k, (vs' j).ownBlock = some k → (vs j).ownBlock = some k) ∧ Frm (kb :: live.map bs) w8 wr)
        case atStart => exact ⟨0, 1, m.files, vs, rfl, Nat.zero_le _, rfl, HFL8.out, rfl, rfl, HO.out.file, HKP8.out, fun _ _ _ hk => hk, Frm.refl _ _⟩
        case round =>
          obtain ⟨i, at_, fs, vs', rfl, hi, rfl, hfl, hlen, hcr, hok, hkp, hvs, hF⟩ := hrel
          have HFL := Lib.hid hfl
          have HLN := Lib.hid hlen
          have HCR := Lib.hid hcr
          have HOK := Lib.hid hok
          have HKP := Lib.hid hkp
          have HVS := Lib.hid hvs
          have HF := Lib.hid hF
          have i0 : (0 : Int) ≤ (i : Int) := by omega
          have i64 : i ≤ 64 := by omega
          have hszr := hF.size
          have HOUT : Hid (∀ x ∈ kb :: live.map bs, x ∈ fpR d b1 b2 (.slice pa m.ops.length pc) bs vs live ∨ w.heap.size ≤ x) := Lib.hid (fun x hx => by
            rcases List.mem_cons.1 hx with rfl | hx
            · exact .inr (Nat.le_of_eq HKB.out.symm)
            · obtain ⟨j, hj, rfl⟩ := List.mem_map.1 hx
              exact .inl (fpR_b hj))
          have HOFF : Hid (d ∉ kb :: live.map bs ∧ b2 ∉ kb :: live.map bs) := Lib.hid ⟨fun hx => by
            rcases List.mem_cons.1 hx with h9 | hx
            · exact HDK.out h9
            · obtain ⟨j, hj, e⟩ := List.mem_map.1 hx
              exact HH.out.d_ne.2.2 (mem_fileB.2 (.inl ⟨j, hj, e⟩)), fun hx => by
            rcases List.mem_cons.1 hx with h9 | hx
            · exact HKN.out (h9 ▸ fpR_2)
            · obtain ⟨j, hj, e⟩ := List.mem_map.1 hx
              exact HH.out.map_ne.2 (mem_fileB.2 (.inl ⟨j, hj, e⟩))⟩
          clear hfl hlen hcr hok hkp hvs hF
          by_cases hil : i < DL
          · have i5 : (i : Int) < (DL : Int) := by omega
            obtain ⟨pr, hpr⟩ : ∃ pr, D[i]? = some pr := ⟨_, List.getElem?_eq_getElem (by rw [← HDL.out]; exact hil)⟩
            obtain ⟨s, f⟩ := pr
            have hmem := List.mem_of_getElem? hpr
            have hfl := HLV.out _ hmem
            have hs := goodN_max (HDOK.out.good _ hmem)
            have hfd := findD_mem HDOK.out hmem
            have hlk := (HM8.out.frm HF.out HOFF.out.2).look hs
            rw [hfd] at hlk
            simp only [ptrO] at hlk
            have hd1 := (HD8.out.frm HF.out HOFF.out.1).cell (i := 1) rfl
            have hnrow : Hid (∀ k, (Value.slice na DL nc).ownBlock = some k → k ∉ kb :: live.map bs) := Lib.hid (fun k hk hm => by
              rcases List.mem_cons.1 hm with h9 | h9
              · obtain ⟨_, _, _, hkr, _⟩ := HKP8.out
                exact absurd (own_row_ty HNO.out hkr (h9 ▸ hk)) (by decide)
              · obtain ⟨j, hj, e⟩ := List.mem_map.1 h9
                exact absurd (own_row_ty HNO.out (HFL8.out.at_ j hj) (e ▸ hk)) (by decide))
            have hN := owns_frm (ownsB_mono HNO.out (Nat.zero_le _)) HF.out hnrow.out
            obtain ⟨ng, ncap, hnv, hnl, hnm9, hnr⟩ := owns_some hN (by omega)
            simp only [Value.slice.injEq] at hnv
            obtain ⟨rfl, _, rfl⟩ := hnv
            have g0 := hnr.cell (i := i) (v := str s) (by rw [HNSD.out, strs, List.getElem?_map, List.getElem?_map, hpr]; rfl)
            have hat := HFL.out.at_ f hfl
            have hda := HFL.out.data f hfl
            have hfn := HFL.out.lt f hfl
            obtain ⟨x, hx⟩ : ∃ x, x = fileAt fs f := ⟨_, rfl⟩
            have hxo := HOK.out _ (fileAt_mem hfn)
            rw [← hx] at hat hda hxo
            obtain ⟨va, vc, hvv, hvl⟩ := buf_shape hda
            rw [hvv] at hat
            have a0 := hat.cell (i := 0) rfl
            have a1 := hat.cell (i := 1) rfl
            have z0 := hat.frozen 0
            have z1 := hat.frozen 1
            have hvc : x.data.length ≤ vc := by
              rcases hda.2 with ⟨h8, h9⟩ | ⟨g, cp, cur, h8, _, h9, _⟩
              · omega
              · rw [hvv] at h8; cases h8; exact h9
            obtain ⟨n9, hn9⟩ : ∃ n9, n9 = x.data.length := ⟨_, rfl⟩
            obtain ⟨k9, hk9⟩ : ∃ k9, k9 = x.safe := ⟨_, rfl⟩
            have hdrop : D.drop i = (s, f) :: D.drop (i + 1) := drop_get hpr
            have hstep := HCR.out
            rw [hdrop, crashF] at hstep
            have HST := Lib.hid hstep
            have HX := Lib.hid hx
            have HN9 := Lib.hid hn9
            have HK9 := Lib.hid hk9
            rw [← hn9] at a0 hxo hvc hat hvv
            rw [← hk9] at a1 hxo hat
            have HDA := Lib.hid hda
            have HAT := Lib.hid hat
            have HVV := Lib.hid hvv
            have HFN := Lib.hid hfn
            have HFLI := Lib.hid hfl
            obtain ⟨hks, hns⟩ := hxo
            obtain ⟨t9, ht9⟩ : ∃ t9, t9 = n9 - k9 := ⟨_, rfl⟩
            have HT9 := Lib.hid ht9
            have iw : IntKind.i64.wrap ((n9 : Int) - (k9 : Int)) = (t9 : Int) := by rw [IntWalk.i64_in _ (by omega)]; omega
            have iw2 : RowKit.wrap64 ((n9 : Int) - (k9 : Int)) = (t9 : Int) := by rw [← IntWalk.i64_left]; exact iw
            have HKS := Lib.hid hks
            have HNS9 := Lib.hid hns
            have HVC := Lib.hid hvc
            have i6 : (DL : Int) ≤ (nc : Int) := by omega
            have i7 : (nc : Int) ≤ 9223372036854775807 := by unfold maxLen at hnm9; omega
            clear hmem hfd hN hnr hpr hs hdrop hstep hx hn9 hk9 hda hat hvv hvl hfn hfl hnrow ht9 hks hns hvc
            have hkf : kb ∉ fileB bs vs' live := fun hm => by
              obtain ⟨_, _, _, hkr, _⟩ := HKP.out
              rcases mem_fileB.1 hm with ⟨j, hj, e⟩ | ⟨j, hj, e⟩
              · exact absurd (row_row_ty hkr (e ▸ HFL.out.at_ j hj)) (by decide)
              · exact absurd (buf_row_ty (HFL.out.data j hj) hkr e) (by decide)
            have HKF := Lib.hid hkf
            have hkbf : bs f ≠ kb := fun e => hkf (mem_fileB.2 (.inl ⟨f, HFLI.out, e⟩))
            have HKBF := Lib.hid hkbf
            clear hkf
            by_cases hgt : k9 < n9
            · have i8 : (0 : Int) < (t9 : Int) := t_pos HT9.out hgt
              go_wp2_with fail
              go_quiet (fail)
              go_wp2_with fail
              have fq : Frm [] wr (wr.drewN nq) := (Frm.refl [] wr).drewN nq
              have HATQ := Lib.hid (HAT.out.frm fq (by simp))
              have HKPQ := Lib.hid (HKP.out.frm fq (by simp) (by simp))
              have FQ := Lib.hid fq
              clear a0 a1 z0 z1 fq hd1 g0 hlk
              generalize wr.drewN nq = wq at *
              have a1 := HATQ.out.cell (i := 1) rfl
              have z1 := HATQ.out.frozen 1
              obtain ⟨r9, hr9⟩ : ∃ r, r = pickM keep at_ % (t9 + 1) := ⟨_, rfl⟩
              have HR9 := Lib.hid hr9
              have hr9l : r9 ≤ t9 := by rw [hr9]; exact Nat.le_of_lt_succ (Nat.mod_lt _ (Nat.succ_pos _))
              have ht9 := HT9.out
              have hn9 := HNS9.out
              have hvc9 := HVC.out
              have hkr : k9 + r9 ≤ 4194304 := Nat.le_trans (kr_le ht9 hgt hr9l) hn9
              have iw3 : IntKind.i64.wrap ((k9 : Int) + (r9 : Int)) = ((k9 + r9 : Nat) : Int) := wrap_add9 hkr
              have iw4 : RowKit.wrap64 ((k9 : Int) + (r9 : Int)) = ((k9 + r9 : Nat) : Int) := by rw [← IntWalk.i64_left]; exact iw3
              have hK9 : k9 + r9 ≤ n9 := kr_le ht9 hgt hr9l
              have ht9b : t9 ≤ 1000000000 := t_bnd ht9 hn9
              have HK99 := Lib.hid hK9
              have HGT := Lib.hid hgt
              clear hr9 hr9l ht9 iw iw2 hgt
              have eg : ∀ args w, (callFunc 36 args).run Try.prog w = .ok (.enter 36 args) w := enters_of Try.func36 (by kernel_rfl) rfl
              go_region_law (((try go_simp); go_at_fn 36; refine (next_any2 (HKPQ.out.frm (by first | exact Frm.refl [] wq | exact (Frm.refl [] wq).drew | exact (Frm.refl [] wq).drewN _) (by simp) (by simp)) (Nat.le_refl _) t9 ht9b).mono ?_; rintro e2 w2 ⟨he2, hK2, hf20⟩; rw [← HR9.out] at he2; subst he2; have hf2 : Frm [kb] wq w2 := Frm.trans (by first | exact Frm.refl [kb] wq | exact (Frm.refl [kb] wq).drew | exact (Frm.refl [kb] wq).drewN _) hf20 (fun x hx => .inl hx); have b1' := hf2.cell a1 (by simpa using hkbf); have y1 := hf2.frz a1 z1 (by simpa using hkbf)))
              all_goals
                obtain ⟨K9, hK9e⟩ : ∃ K9, K9 = k9 + r9 := ⟨_, rfl⟩
                have hK9i : (k9 : Int) + (r9 : Int) = (K9 : Int) := by rw [hK9e]; rfl
                rw [hK9i]
                have r2 := HATQ.out.frm hf2 (by simpa using hkbf)
                have HR2 := Lib.hid (r2.setCell 1 (.int .i64 (K9 : Int)))
                have FS : Hid (Frm [bs f] w2 (w2.setCell ⟨bs f, 1, none⟩ (.int .i64 (K9 : Int)))) := Lib.hid ((Frm.refl [bs f] w2).setCell (p := ⟨bs f, 1, none⟩) (.inl (by simp)) _)
                have F2 : Hid (Frm [kb] wr w2) := Lib.hid ((FQ.out.mono (by simp)).trans hf2 (fun x hx => .inl hx))
                have HFL2 := Lib.hid (HFL.out.frm F2.out (fun k hk hm => HKF.out (by rw [List.mem_singleton] at hm; rw [← hm]; exact hk)))
                have HK2 := Lib.hid hK2
                have hKn : K9 ≤ n9 := by rw [hK9e]; exact HK99.out
                have HKN9 := Lib.hid hKn
                have HKE := Lib.hid hK9e
                have jv1 : (K9 : Int) ≤ (vc : Int) := Int.ofNat_le.2 (Nat.le_trans hKn hvc9)
                have jv0 : (0 : Int) ≤ (K9 : Int) := Int.natCast_nonneg _
                clear a1 z1 hf20 hf2 b1' y1 hK2 r2 iw3 iw4 hkr hK9 hK9i hK9e eg hKn
                generalize w2.setCell ⟨bs f, 1, none⟩ (.int .i64 (K9 : Int)) = w3' at *
                have a0 := HR2.out.cell (i := 0) rfl
                have a1 := HR2.out.cell (i := 1) rfl
                have z0 := HR2.out.frozen 0
                go_wp2_with fail
                go_region
                have r9x := (HR2.out.setCell 0 (.slice va K9 K9)).drew
                have fz : Frm [bs f] w3' (w3'.setCell ⟨bs f, 0, none⟩ (.slice va K9 K9)).drew := ((Frm.refl [bs f] w3').setCell (p := ⟨bs f, 0, none⟩) (.inl (by simp)) _).drew
                have FZ2 : Hid (Frm [bs f] w2 (w3'.setCell ⟨bs f, 0, none⟩ (.slice va K9 K9)).drew) := Lib.hid (FS.out.trans fz (fun x hx => .inl hx))
                have R9X := Lib.hid r9x
                clear a0 a1 z0 r9x fz FS HR2
                generalize (w3'.setCell ⟨bs f, 0, none⟩ (.slice va K9 K9)).drew = w9 at *
                have FZ : Hid (Frm [kb, bs f] wr w9) := Lib.hid ((F2.out.mono (by simp)).trans FZ2.out (fun x hx => .inl (by rw [List.mem_singleton] at hx; simp [hx])))
                have hvl : (x.data.take K9).length = K9 := by rw [List.length_take, ← HN9.out]; exact Nat.min_eq_left HKN9.out
                have hb0 := HDA.out
                rw [HVV.out, ← HN9.out] at hb0
                have hb1 := buf_cut hb0 HKN9.out (Nat.lt_of_le_of_lt (Nat.zero_le _) HGT.out)
                have hblk : ∀ k, (Value.slice va K9 K9).ownBlock = some k → (Value.slice va n9 vc).ownBlock = some k := fun k hk => own_cap hk
                have hb2 := buf_frm hb1 FZ.out (fun k hk hm => by
                  rcases List.mem_cons.1 hm with h9 | h9
                  · obtain ⟨_, _, _, hkr, _⟩ := HKP.out
                    exact absurd (buf_row_ty hb0 hkr (h9 ▸ hblk k hk)) (by decide)
                  · rw [List.mem_singleton] at h9
                    exact absurd (buf_row_ty hb0 HAT.out (h9 ▸ hblk k hk)) (by decide))
                rw [← hvl] at hb2
                have hb3 : BufAt w9 (.slice va K9 K9) (x.data.take K9).length (x.data.take K9) := by
                  have h9 := hb2
                  rw [hvl] at h9 ⊢
                  exact h9
                have hput := HFL2.out.put (w' := w9) HFLI.out (v := .slice va K9 K9) (f := ⟨x.data.take K9, K9⟩) R9X.out hb3 (FZ2.out.mono (fun x hx => by rw [List.mem_singleton] at hx; rw [hx]; exact List.mem_cons_self)) (fun k hk => .inl (by rw [HVV.out]; exact hblk k hk))
                have hstep2 : crashF keep (D.drop (i + 1)) (at_ + 1) (fs.set f ⟨x.data.take K9, K9⟩) = crashF keep D 1 m.files := by
                  have h9 := HST.out
                  try dsimp only at h9
                  rw [← HX.out, ← HN9.out, ← HK9.out, if_pos HGT.out, ← HT9.out, ← HR9.out, ← HKE.out] at h9
                  exact h9
                have HPUT := Lib.hid hput
                have HS2 := Lib.hid hstep2
                have hK9b := HK2.out.frm FZ2.out (fun k hk => .inl (by rw [List.mem_singleton] at hk; rw [hk]; exact fpR_b HFLI.out)) (by simpa using hkbf.symm)
                have HK9B := Lib.hid hK9b
                have HVL := Lib.hid hvl
                have HBK := Lib.hid hblk
                clear hput hstep2 hK9b hb0 hb1 hb2 hb3 hvl hblk
                go_wp2_with fail
                go_roundg (DL - (i + 1))
                case rel =>
                  refine ⟨i + 1, at_ + 1, _, _, rfl, hil, by go_num, HPUT.out, by rw [List.length_set]; exact HLN.out, HS2.out, fun g hg => ?_, HK9B.out, fun j hj k hk => ?_, HF.out.trans FZ.out (fun x hx => .inl ?_)⟩
                  · rcases List.mem_or_eq_of_mem_set hg with h9 | h9
                    · exact HOK.out g h9
                    · rw [h9]
                      have h8 := HVL.out
                      have h7 := HNS9.out
                      have h6 := HKN9.out
                      exact ⟨Nat.le_of_eq h8.symm, by show (x.data.take K9).length ≤ _; rw [h8]; exact Nat.le_trans h6 h7⟩
                  · by_cases e : j = f
                    · subst e
                      rw [upd_same] at hk
                      exact HVS.out j hj k (by rw [HVV.out]; exact HBK.out k hk)
                    · rw [upd_other _ _ e] at hk
                      exact HVS.out j hj k hk
                  · rcases List.mem_cons.1 hx with h9 | h9
                    · rw [h9]; exact List.mem_cons_self
                    · rw [List.mem_singleton] at h9
                      rw [h9]
                      exact List.mem_cons_of_mem _ (List.mem_map.2 ⟨f, HFLI.out, rfl⟩)
                case measure => exact meas9 hil
            · have ht0 : t9 = 0 := by rw [HT9.out]; exact Nat.sub_eq_zero_of_le (Nat.le_of_not_lt hgt)
              have i8 : ¬ (0 : Int) < (t9 : Int) := by rw [ht0]; decide
              have hstep2 : crashF keep (D.drop (i + 1)) at_ fs = crashF keep D 1 m.files := by
                have h9 := HST.out
                dsimp only at h9
                rw [← HX.out, ← HN9.out, ← HK9.out, if_neg hgt] at h9
                exact h9
              have HS2 := Lib.hid hstep2
              clear ht0 hstep2
              go_wp2_with fail
              go_quiet (fail)
              go_wp2_with fail
              have fq : Frm [] wr (wr.drewN nq) := (Frm.refl [] wr).drewN nq
              have FQ := Lib.hid fq
              clear fq
              go_roundg (DL - (i + 1))
              case rel => exact ⟨i + 1, at_, fs, vs', rfl, hil, by go_num, HFL.out.frm FQ.out (by simp), HLN.out, HS2.out, HOK.out, HKP.out.frm FQ.out (by simp) (by simp), HVS.out, HF.out.trans FQ.out (by simp)⟩
              case measure => exact meas9 hil
          · have i5 : ¬ (i : Int) < (DL : Int) := by omega
            have hfin : fs = crashF keep D 1 m.files := by
              have h9 := HCR.out
              rw [List.drop_eq_nil_of_le (by rw [← HDL.out]; omega)] at h9
              exact h9
            have hM9 := HM8.out.frm HF.out HOFF.out.2
            have hcl := clone_map (m := { m with dir := D }) hM9
            have hD9 := HD8.out.frm HF.out HOFF.out.1
            have HD9 := Lib.hid hD9
            have d1 := hD9.cell (i := 1) rfl
            have HM9 := Lib.hid hM9
            have HFIN := Lib.hid hfin
            clear hfin hM9 hD9
            go_wp2_with fail
            refine hcl.mono ?_
            rintro e10 w10 ⟨rfl, hm10, hf10⟩
            have hD10 := HD9.out.frm hf10 (by simp)
            have q2 := hD10.cell (i := 2) rfl
            have q3 := hD10.cell (i := 3) rfl
            have q4 := hD10.cell (i := 4) rfl
            have q5 := hD10.cell (i := 5) rfl
            have q6 := hD10.cell (i := 6) rfl
            have z2 := hD10.frozen 2
            have z3 := hD10.frozen 3
            have z4 := hD10.frozen 4
            have z5 := hD10.frozen 5
            have z6 := hD10.frozen 6
            have HD10 := Lib.hid hD10
            have HM10 := Lib.hid hm10
            have HF10 := Lib.hid hf10
            have hn3 : b2 ≠ wr.heap.size := by have := HM9.out.lt; omega
            have hd3 : wr.heap.size ≠ d := by have := HD9.out.lt; omega
            have HN3 := Lib.hid hn3
            have HD3 := Lib.hid hd3
            have hw3 : w.heap.size ≤ wr.heap.size := Nat.le_trans F8.out.size HF.out.size
            have HW3 := Lib.hid hw3
            clear hcl hm10 hf10 hD10 d1 hn3 hd3 hw3
            obtain ⟨b3, hb3⟩ : ∃ b3, b3 = wr.heap.size := ⟨_, rfl⟩
            rw [← hb3] at HM10 HN3 HD3 HW3 ⊢
            go_wp2_with fail
            go_end0
            subst hb3
            have fD : Frm [d] w10 (((((w10.setCell ⟨d, 2, none⟩ (.map (some wr.heap.size))).setCell ⟨d, 3, none⟩ (.slice none 0 0)).setCell ⟨d, 4, none⟩ (.int .i64 0)).setCell ⟨d, 5, none⟩ (.int .i64 0)).setCell ⟨d, 6, none⟩ (.bool false)) :=
              (((((Frm.refl [d] w10).setCell (p := ⟨d, 2, none⟩) (.inl (by simp)) _).setCell (p := ⟨d, 3, none⟩) (.inl (by simp)) _).setCell (p := ⟨d, 4, none⟩) (.inl (by simp)) _).setCell (p := ⟨d, 5, none⟩) (.inl (by simp)) _).setCell (p := ⟨d, 6, none⟩) (.inl (by simp)) _
            have hR : DR (((((w10.setCell ⟨d, 2, none⟩ (.map (some wr.heap.size))).setCell ⟨d, 3, none⟩ (.slice none 0 0)).setCell ⟨d, 4, none⟩ (.int .i64 0)).setCell ⟨d, 5, none⟩ (.int .i64 0)).setCell ⟨d, 6, none⟩ (.bool false)) d b2 wr.heap.size (.slice none 0 0) bs vs' live { m with files := fs, dir := D, safe := D, ops := [], armed := 0, off := false, count := 0 } := by
              refine ⟨((((HD10.out.setCell 2 (.map (some wr.heap.size))).setCell 3 (.slice none 0 0)).setCell 4 (.int .i64 0)).setCell 5 (.int .i64 0)).setCell 6 (.bool false), (HM9.out.frm HF10.out (by simp)).frm fD (by simpa using hb2d), HM10.out.frm fD (by simpa using HD3.out), HN3.out, World.ownsRow_nil _ _ _ _, (HFL.out.frm HF10.out (by simp)).frm fD (fun k hk hm => ?_), ⟨HLV.out, HLV.out, fun o ho => by cases ho⟩⟩
              rw [List.mem_singleton] at hm
              rcases mem_fileB.1 hk with ⟨j, hj, e⟩ | ⟨j, hj, e⟩
              · exact HH.out.d_ne.2.2 (mem_fileB.2 (.inl ⟨j, hj, e.trans hm⟩))
              · exact HH.out.d_ne.2.2 (mem_fileB.2 (.inr ⟨j, hj, HVS.out j hj d (hm ▸ e)⟩))
            have hE : crashM m keep = { m with files := fs, dir := D, safe := D, ops := [], armed := 0, off := false, count := 0 } := by
              rw [crashM, ← HD.out, ← HFIN.out]
            rw [hE]
            refine ⟨rfl, PDStep.mk hR ((((F8.out.mono (fun x hx => ?_)).trans HF.out HOUT.out).trans HF10.out (by simp)).trans fD (fun x hx => .inl (by rw [List.mem_singleton] at hx; rw [hx]; exact fpR_d))) fpR_d fpR_2 (.inr HW3.out) (fun k hk => by simp [Value.ownBlock] at hk) (fun j hj => .inl (fpR_b hj)) (fun j hj k hk => .inl (fpR_v hj (HVS.out j hj k hk)))⟩
            rcases List.mem_cons.1 hx with rfl | hx
            · exact fpR_d
            · rw [List.mem_singleton] at hx
              rw [hx]
              exact fpR_2
end

end Go.Proofs.Ytkebdgbjgbcneaa
