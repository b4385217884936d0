/- The program's Copy: the closure that copies a file once. -/
import Derived.Test.YtkebdgbjgbcneaaER
namespace Go.Proofs.Ytkebdgbjgbcneaa
open Go.RowKit Go.Maps Go.Shelf

def kvC (bs bs' : Nat → Nat) (done : List Nat) : List (Option Nat × Option Nat) := (none, none) :: done.map fun i => (some (bs i), some (bs' i))
theorem getK_none (bs bs' : Nat → Nat) (done : List Nat) : getK (kvC bs bs' done) none = some none := rfl
theorem getK_in {bs bs' : Nat → Nat} {i : Nat} : ∀ {done : List Nat}, (∀ j ∈ done, bs j = bs i → j = i) → i ∈ done → getK (kvC bs bs' done) (some (bs i)) = some (some (bs' i))
  | [], _, h => by cases h
  | j :: r, hi, h => by
    by_cases e : j = i
    · subst e
      simp [getK, kvC]
    · have h2 : i ∈ r := by
        rcases List.mem_cons.1 h with h9 | h9
        · exact absurd h9.symm e
        · exact h9
      have h3 : (some (bs j) == some (bs i)) = false := by
        simp
        exact fun h9 => e (hi j List.mem_cons_self h9)
      have ih := getK_in (bs' := bs') (done := r) (fun k hk => hi k (List.mem_cons_of_mem _ hk)) h2
      simp only [getK, kvC, List.map_cons, List.find?_cons] at ih ⊢
      rw [h3]
      exact ih
theorem getK_out {bs bs' : Nat → Nat} {i : Nat} : ∀ {done : List Nat}, (∀ j ∈ done, bs j ≠ bs i) → getK (kvC bs bs' done) (some (bs i)) = none
  | [], _ => rfl
  | j :: r, hi => by
    have h3 : (some (bs j) == some (bs i)) = false := by
      simp
      exact hi j List.mem_cons_self
    have ih := getK_out (bs' := bs') (done := r) (fun k hk => hi k (List.mem_cons_of_mem _ hk))
    simp only [getK, kvC, List.map_cons, List.find?_cons] at ih ⊢
    rw [h3]
    exact ih
/-- While a disk is copied: done are the files that have been copied, to the blocks bs'. -/
structure CS (W : World) (B mb : Nat) (bs : Nat → Nat) (live : List Nat) (fs : List FM) (bs' : Nat → Nat) (vs' : Nat → Value) (done : List Nat) : Prop where
  map : PMap W mb (kvC bs bs' done)
  sub : ∀ i ∈ done, i ∈ live
  files : FilesAt W bs' vs' done fs
  new : ∀ k ∈ fileB bs' vs' done, B ≤ k
  mbn : B ≤ mb
theorem PMap.ne_row {w : World} {b g e : Nat} {kv : List (Option Nat × Option Nat)} {xs : List Value} (h : PMap w b kv) (hr : RowAt w g e xs) : g ≠ b := by
  obtain ⟨es, clock, h1, h2⟩ := h
  obtain ⟨cur, hg, _⟩ := hr
  intro e
  subst e
  rw [hg] at h1
  cases h1
theorem PMap.ne_buf {w : World} {b n : Nat} {kv : List (Option Nat × Option Nat)} {v : Value} {xs : List UInt8} (h : PMap w b kv) (hr : BufAt w v n xs) : ∀ k, v.ownBlock = some k → k ≠ b := fun k hk e => by
  obtain ⟨es, clock, h1, h2⟩ := h
  rcases hr.2 with ⟨rfl, _⟩ | ⟨g, cap, cur, rfl, hg, _⟩
  · simp [Value.ownBlock] at hk
  · simp [Value.ownBlock] at hk
    subst hk
    subst e
    rw [hg] at h1
    cases h1
section
variable {w0 W W' : World} {B mb : Nat} {bs bs' : Nat → Nat} {vs vs' : Nat → Value} {live done : List Nat} {fs : List FM}
theorem CS.ne (h : CS W B mb bs live fs bs' vs' done) : ∀ k ∈ fileB bs' vs' done, k ≠ mb := fun k hk => by
  rcases mem_fileB.1 hk with ⟨i, hi, rfl⟩ | ⟨i, hi, hk⟩
  · exact h.map.ne_row (h.files.at_ i hi)
  · exact h.map.ne_buf (h.files.data i hi) k hk
theorem CS.nil (h : CS W B mb bs live fs bs' vs' done) (hf : Frm [] W W') : CS W' B mb bs live fs bs' vs' done :=
  ⟨h.map.frm hf (by simp), h.sub, h.files.frm hf (by simp), h.new, h.mbn⟩
theorem CS.frm {fp : List Nat} (h : CS W B mb bs live fs bs' vs' done) (hf : Frm fp W W') (hm : mb ∉ fp) (hn : ∀ k ∈ fileB bs' vs' done, k ∉ fp) : CS W' B mb bs live fs bs' vs' done :=
  ⟨h.map.frm hf hm, h.sub, h.files.frm hf hn, h.new, h.mbn⟩
theorem CS.add (h : CS W B mb bs live fs bs' vs' done) (hB : B ≤ W.heap.size) {i g : Nat} (hi : i ∈ live) (hnd : i ∉ done) (hil : i < fs.length) (hf : Frm [mb] W W') (hp : PMap W' mb (kvC bs bs' done ++ [(some (bs i), some g)])) {v : Value} (hr : RowAt W' g 62 [v, .int .i64 ((fileAt fs i).safe : Int)]) (hv : BufAt W' v (fileAt fs i).data.length (fileAt fs i).data) (hg : W.heap.size ≤ g) (hvg : ∀ k, v.ownBlock = some k → W.heap.size ≤ k) : CS W' B mb bs live fs (upd bs' i g) (upd vs' i v) (done ++ [i]) := by
  have hfl := h.files.frm hf (fun k hk hm => h.ne k hk (by rwa [List.mem_singleton] at hm))
  have hbl := h.files.blocks
  have hb : ∀ j ∈ done, upd bs' i g j = bs' j := fun j hj => upd_other _ _ (fun e => hnd (e ▸ hj))
  have hvv : ∀ j ∈ done, upd vs' i v j = vs' j := fun j hj => upd_other _ _ (fun e => hnd (e ▸ hj))
  refine ⟨?_, fun j hj => ?_, ⟨fun j hj => ?_, fun j hj => ?_, fun j hj => ?_, fun j hj k hk e => ?_, fun j hj k hk c e1 e2 => ?_⟩, fun k hk => ?_, h.mbn⟩
  · have e : kvC bs (upd bs' i g) (done ++ [i]) = kvC bs bs' done ++ [(some (bs i), some g)] := by
      simp only [kvC, List.map_append, List.map_cons, List.map_nil, upd_same, List.cons_append]
      congr 2
      exact List.map_congr_left (fun j hj => by rw [hb j hj])
    rw [e]
    exact hp
  · rcases List.mem_append.1 hj with hj | hj
    · exact h.sub j hj
    · rw [List.mem_singleton] at hj; rw [hj]; exact hi
  · rcases List.mem_append.1 hj with hj | hj
    · exact h.files.lt j hj
    · rw [List.mem_singleton] at hj; rw [hj]; exact hil
  · rcases List.mem_append.1 hj with hj | hj
    · rw [hb j hj, hvv j hj]; exact hfl.at_ j hj
    · rw [List.mem_singleton] at hj; subst hj; rw [upd_same, upd_same]; exact hr
  · rcases List.mem_append.1 hj with hj | hj
    · rw [hvv j hj]; exact hfl.data j hj
    · rw [List.mem_singleton] at hj; subst hj; rw [upd_same]; exact hv
  · rcases List.mem_append.1 hj with h1 | h1 <;> rcases List.mem_append.1 hk with h2 | h2
    · rw [hb j h1, hb k h2] at e; exact hfl.inj1 j h1 k h2 e
    · rw [List.mem_singleton] at h2; subst h2
      rw [hb j h1, upd_same] at e
      have := hbl _ (mem_fileB.2 (.inl ⟨j, h1, rfl⟩)); omega
    · rw [List.mem_singleton] at h1; subst h1
      rw [hb k h2, upd_same] at e
      have := hbl _ (mem_fileB.2 (.inl ⟨k, h2, rfl⟩)); omega
    · rw [List.mem_singleton] at h1 h2; rw [h1, h2]
  · rcases List.mem_append.1 hj with h1 | h1 <;> rcases List.mem_append.1 hk with h2 | h2
    · rw [hvv j h1] at e1; rw [hvv k h2] at e2; exact hfl.inj2 j h1 k h2 c e1 e2
    · rw [List.mem_singleton] at h2; subst h2
      rw [hvv j h1] at e1; rw [upd_same] at e2
      have := hbl _ (mem_fileB.2 (.inr ⟨j, h1, e1⟩)); have := hvg c e2; omega
    · rw [List.mem_singleton] at h1; subst h1
      rw [hvv k h2] at e2; rw [upd_same] at e1
      have := hbl _ (mem_fileB.2 (.inr ⟨k, h2, e2⟩)); have := hvg c e1; omega
    · rw [List.mem_singleton] at h1 h2; rw [h1, h2]
  · rcases mem_fileB.1 hk with ⟨j, hj, rfl⟩ | ⟨j, hj, hk⟩
    · rcases List.mem_append.1 hj with hj | hj
      · rw [hb j hj]; exact h.new _ (mem_fileB.2 (.inl ⟨j, hj, rfl⟩))
      · rw [List.mem_singleton] at hj; subst hj; rw [upd_same]; omega
    · rcases List.mem_append.1 hj with hj | hj
      · rw [hvv j hj] at hk; exact h.new _ (mem_fileB.2 (.inr ⟨j, hj, hk⟩))
      · rw [List.mem_singleton] at hj; subst hj; rw [upd_same] at hk; have := hvg k hk; omega
/-- What the closure answers at file i. -/
def OfEnd (W : World) (B mb : Nat) (bs : Nat → Nat) (live : List Nat) (fs : List FM) (bs' : Nat → Nat) (done : List Nat) (i : Nat) (W' : World) (e : Ending) : Prop :=
  ∃ (bs2 : Nat → Nat) (vs2 : Nat → Value) (done2 : List Nat), e = .returned (.pointer (some ⟨bs2 i, 0, none⟩)) ∧ i ∈ done2 ∧ CS W' B mb bs live fs bs2 vs2 done2 ∧ (∀ j ∈ done, j ∈ done2 ∧ bs2 j = bs' j) ∧ Frm [mb] W W'
theorem CS.alive (h : CS W B mb bs live fs bs' vs' done) (old : FilesAt W bs vs live fs) : ∀ p ∈ kvC bs bs' done, Alive W p.1 := fun p hp => by
  rcases List.mem_cons.1 hp with rfl | hp
  · intro g hg; cases hg
  · obtain ⟨j, hj, rfl⟩ := List.mem_map.1 hp
    intro g hg
    cases hg
    exact ⟨_, old.at_ j (h.sub j hj)⟩
set_option linter.unusedSimpArgs false in
set_option maxRecDepth 100000 in
set_option maxHeartbeats 4000000 in
theorem of_any (h : CS W B mb bs live fs bs' vs' done) (hB : B ≤ W.heap.size) (old : FilesAt W bs vs live fs) (hlen : ∀ i ∈ live, (fileAt fs i).data.length ≤ 1000000000) {cb i : Nat} (hi : i ∈ live) (hc : W.cell? ⟨cb, 0, none⟩ = some (.map (some mb))) :
    Calls Try.prog 49 #[.pointer (some ⟨bs i, 0, none⟩), .pointer (some ⟨cb, 0, none⟩)] W fun e W' => OfEnd W B mb bs live fs bs' done i W' e := by
  have hal := h.alive old
  have hki : Alive W (some (bs i)) := fun g hg => by cases hg; exact ⟨_, old.at_ i hi⟩
  have hl1 := h.map.look hki hal true
  have hl2 := h.map.look hki hal false
  by_cases hd : i ∈ done
  · have hg := getK_in (bs := bs) (bs' := bs') (fun j hj e => old.inj1 j (h.sub j hj) i hi e) hd
    rw [hg] at hl1 hl2
    have l1 : (Instr.lookup 79 (.map (some mb)) (.pointer (some ⟨bs i, 0, none⟩)) true).run Try.prog W = .ok (.tuple #[.pointer (some ⟨bs' i, 0, none⟩), .bool true]) W := hl1
    have l2 : (Instr.lookup 79 (.map (some mb)) (.pointer (some ⟨bs i, 0, none⟩)) false).run Try.prog W = .ok (.pointer (some ⟨bs' i, 0, none⟩)) W := hl2
    have HH := Lib.hid h
    have HD := Lib.hid hd
    clear h hB old hlen hi hal hki hl1 hl2 hd hg
    go_enter Try.func49, Try.ntmps49
    go_wp2_with fail
    go_ret
    exact ⟨bs', vs', done, rfl, HD.out, HH.out, fun j hj => ⟨hj, rfl⟩, Frm.refl _ _⟩
  · have hg := getK_out (bs := bs) (bs' := bs') (i := i) (done := done) (fun j hj e => hd (by have := old.inj1 j (h.sub j hj) i hi e; rw [← this]; exact hj))
    rw [hg] at hl1
    have l1 : (Instr.lookup 79 (.map (some mb)) (.pointer (some ⟨bs i, 0, none⟩)) true).run Try.prog W = .ok (.tuple #[.pointer none, .bool false]) W := hl1
    have hdat := old.data i hi
    have hat := old.at_ i hi
    have hil := old.lt i hi
    obtain ⟨dt, hdt⟩ : ∃ dt, dt = (fileAt fs i).data := ⟨_, rfl⟩
    have hdl := hlen i hi
    obtain ⟨sf, hsf⟩ : ∃ sf, sf = (fileAt fs i).safe := ⟨_, rfl⟩
    rw [← hdt] at hdat hdl
    rw [← hsf] at hat
    obtain ⟨va, vc, hvv, hvl⟩ := buf_shape hdat
    rw [hvv] at hat hdat
    have c0 := hat.cell (i := 0) rfl
    have c1 := hat.cell (i := 1) rfl
    have HBV := Lib.hid (buf_bytes hdat)
    have hcbl : cb < W.heap.size := World.block_lt_of_cell? W _ hc
    have HH := Lib.hid h
    have HD := Lib.hid hd
    have HG := Lib.hid hg
    have HOLD := Lib.hid old
    have HI := Lib.hid hi
    have HIL := Lib.hid hil
    have HDT := Lib.hid hdt
    have HSF := Lib.hid hsf
    have HDL := Lib.hid hdl
    have HB := Lib.hid hB
    clear h hB old hlen hi hal hki hl1 hl2 hd hg hdat hat hil hdt hsf hvv hvl hdl
    go_enter Try.func49, Try.ntmps49
    go_wp2_with fail
    go_region_law ((try go_simp); refine (clone_bytes _ dt (HBV.out.frm (by first | exact Frm.refl [] W | exact (Frm.refl [] W).drew | exact (Frm.refl [] W).drewN _) (by simp)) HDL.out).mono ?_; rintro e2 w2 ⟨a2, c2, rfl, ho2, hf20⟩; have hf2 : Frm [] W w2 := Frm.trans (by first | exact Frm.refl [] W | exact (Frm.refl [] W).drew | exact (Frm.refl [] W).drewN _) hf20 (by simp); have q0 := hf2.cell c0 (by simp); have q1 := hf2.cell c1 (by simp); have qc := hf2.cell hc (by simp); have ncb : cb ≠ w2.heap.size := (by have := hf2.size; omega); have ncl : cb < w2.heap.size := (by have := hf2.size; omega); have f3 : Frm [] W (w2.alloc (.cells #[.slice a2 dt.length c2, .int .i64 (sf : Int)] 62)) := hf2.alloc _; have hC3 := HH.out.nil f3; have hO3 := HOLD.out.frm f3 (by simp); have hki3 : Alive (w2.alloc (.cells #[.slice a2 dt.length c2, .int .i64 (sf : Int)] 62)) (some (bs i)) := (fun g hg => by cases hg; exact ⟨_, hO3.at_ i HI.out⟩); obtain ⟨w4, hput, hp4, hf4⟩ := hC3.map.put hki3 (hC3.alive hO3) HG.out (some w2.heap.size); have hput' : (Instr.mapUpdate 79 (.map (some mb)) (.pointer (some ⟨bs i, 0, none⟩)) (.pointer (some ⟨w2.heap.size, 0, none⟩))).run Try.prog (w2.alloc (.cells #[.slice a2 dt.length c2, .int .i64 (sf : Int)] 62)) = .ok () w4 := hput)
    all_goals
      have hne : w2.heap.size ≠ mb := by have := HH.out.map.lt; have := hf2.size; omega
      have F4 : Hid (Frm [mb] W w4) := Lib.hid ((f3.mono (by simp)).trans hf4 (fun y hy => .inl hy))
      have r3 : RowAt (w2.alloc (.cells #[.slice a2 dt.length c2, .int .i64 (sf : Int)] 62)) w2.heap.size 62 [.slice a2 dt.length c2, .int .i64 (sf : Int)] := RowAt.made _ _ _ _ rfl
      have r4 := r3.frm hf4 (by simpa using hne)
      have b2 := BufAt.of_owns (ho2.alloc (.cells #[.slice a2 dt.length c2, .int .i64 (sf : Int)] 62))
      have hvg : ∀ k, (Value.slice a2 dt.length c2).ownBlock = some k → W.heap.size ≤ k := fun k hk => (ho2.lt k hk).1
      have b4 := buf_frm b2 hf4 (fun k hk hm => by
        rw [List.mem_singleton] at hm
        have := hvg k hk
        have := HH.out.map.lt
        omega)
      have HC4 := Lib.hid (HH.out.add HB.out HI.out HD.out HIL.out F4.out hp4 (by rw [← HSF.out]; exact r4) (by rw [← HDT.out]; exact b4) hf2.size hvg)
      have HO4 := HOLD.out.frm F4.out (fun k hk hm => by
        rw [List.mem_singleton] at hm
        subst hm
        rcases mem_fileB.1 hk with ⟨j, hj, e⟩ | ⟨j, hj, hk2⟩
        · exact HH.out.map.ne_row (HOLD.out.at_ j hj) e
        · exact HH.out.map.ne_buf (HOLD.out.data j hj) _ hk2 rfl)
      have hl4 := HC4.out.map.look (k := some (bs i)) (fun g hg => by cases hg; exact ⟨_, HO4.at_ i HI.out⟩) (HC4.out.alive HO4) false
      rw [getK_in (bs := bs) (fun j hj e => HOLD.out.inj1 j (HC4.out.sub j hj) i HI.out e) (List.mem_append_right _ List.mem_cons_self), upd_same] at hl4
      have l4 : (Instr.lookup 79 (.map (some mb)) (.pointer (some ⟨bs i, 0, none⟩)) false).run Try.prog w4 = .ok (.pointer (some ⟨w2.heap.size, 0, none⟩)) w4 := hl4
      have hcm : cb ∉ [mb] := fun hm => by
        rw [List.mem_singleton] at hm
        subst hm
        obtain ⟨es, clock, h1, _⟩ := HH.out.map
        simp [World.cell?, h1] at hc
      have c4 := F4.out.cell hc hcm
      clear hput hput' q0 q1 qc f3 hC3 hO3 hki3 hp4 hf4 r3 r4 b2 b4 HO4 hl4 hf20 c0 c1 l1
      go_wp2_with fail
      go_ret
      refine ⟨_, _, _, ?_, List.mem_append_right _ List.mem_cons_self, HC4.out, fun j hj => ⟨List.mem_append_left _ hj, upd_other _ _ (fun e => HD.out (e ▸ hj))⟩, F4.out⟩
      rw [upd_same]
      rfl
end

end Go.Proofs.Ytkebdgbjgbcneaa
