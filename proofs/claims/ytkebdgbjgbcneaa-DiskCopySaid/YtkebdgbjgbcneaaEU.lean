/- The program's Copy. -/
import Derived.Test.YtkebdgbjgbcneaaEV
import Derived.Test.YtkebdgbjgbcneaaEW
import Derived.Test.YtkebdgbjgbcneaaEA
namespace Go.Proofs.Ytkebdgbjgbcneaa
open Go.RowKit Go.Maps Go.Shelf

theorem RowAt.ty {w : World} {g e1 e2 : Nat} {xs ys : List Value} (h1 : RowAt w g e1 xs) (h2 : RowAt w g e2 ys) : e1 = e2 := by
  obtain ⟨c1, a1, _⟩ := h1
  obtain ⟨c2, a2, _⟩ := h2
  rw [a1] at a2
  cases a2
  rfl
section
variable {W W' : World} {B mb : Nat} {bs bs' : Nat → Nat} {vs vs' : Nat → Value} {live done : List Nat} {fs : List FM}
theorem CS.ne_disk {cd : Nat} {xs : List Value} (h : CS W B mb bs live fs bs' vs' done) (hr : RowAt W cd 58 xs) : ∀ k ∈ fileB bs' vs' done, k ≠ cd := fun k hk e => by
  rcases mem_fileB.1 hk with ⟨i, hi, rfl⟩ | ⟨i, hi, hk⟩
  · subst e
    exact absurd ((h.files.at_ i hi).ty hr) (by decide)
  · have := buf_row_ty (h.files.data i hi) hr (e ▸ hk)
    exact absurd this (by decide)
theorem CS.ne_own {B9 e9 size n : Nat} {v : Value} {xs : List Value} (h : CS W B mb bs live fs bs' vs' done) (hr : W.ownsRow B9 e9 size v n xs) (h1 : e9 ≠ 62) (h2 : e9 ≠ 5) : ∀ k ∈ fileB bs' vs' done, v.ownBlock = some k → False := fun k hk e => by
  rcases hr.2 with ⟨rfl, _⟩ | ⟨g, cap, cur, rfl, _, hg, _⟩
  · simp [Value.ownBlock] at e
  · simp [Value.ownBlock] at e
    subst e
    rcases mem_fileB.1 hk with ⟨i, hi, e⟩ | ⟨i, hi, hk⟩
    · obtain ⟨c2, a2, _⟩ := h.files.at_ i hi
      rw [e, hg] at a2
      cases a2
      exact h1 rfl
    · rcases (h.files.data i hi).2 with ⟨e, _⟩ | ⟨g2, cap2, cur2, e, hg2, _⟩
      · rw [e] at hk; simp [Value.ownBlock] at hk
      · rw [e] at hk
        simp [Value.ownBlock] at hk
        subst hk
        rw [hg] at hg2
        cases hg2
        exact h2 rfl
theorem MapD.ne_own {b B9 e9 size n : Nat} {bs9 : Nat → Nat} {l : Dir} {v : Value} {xs : List Value} (h : MapD W b bs9 l) (hr : W.ownsRow B9 e9 size v n xs) : ∀ k, v.ownBlock = some k → k = b → False := fun k e e2 => by
  obtain ⟨es, clock, h1, _⟩ := h
  rcases hr.2 with ⟨rfl, _⟩ | ⟨g, cap, cur, rfl, _, hg, _⟩
  · simp [Value.ownBlock] at e
  · simp [Value.ownBlock] at e
    subst e
    subst e2
    rw [hg] at h1
    cases h1
set_option linter.unusedSimpArgs false in
theorem of_nil (h : CS W B mb bs live fs bs' vs' done) (old : FilesAt W bs vs live fs) {cb : Nat} (hc : W.cell? ⟨cb, 0, none⟩ = some (.map (some mb))) :
    Calls Try.prog 49 #[.pointer none, .pointer (some ⟨cb, 0, none⟩)] W fun e W' => e = .returned (.pointer none) ∧ W' = W := by
  have hal := h.alive old
  have hki : Alive W none := fun g hg => by cases hg
  have l1 : (Instr.lookup 79 (.map (some mb)) (.pointer none) true).run Try.prog W = .ok (.tuple #[.pointer none, .bool true]) W := h.map.look hki hal true
  have l2 : (Instr.lookup 79 (.map (some mb)) (.pointer none) false).run Try.prog W = .ok (.pointer none) W := h.map.look hki hal false
  clear h old hal hki
  go_enter Try.func49, Try.ntmps49
  go_wp2_with fail
  go_ret
  exact ⟨rfl, rfl⟩
end
theorem opC_parts {bs : Nat → Nat} {o : OpM} (hk : o.kind = 1 ∨ o.kind = 2 ∨ o.kind = 3) {sa sb : Nm} {pq : Option Addr} (h : opC bs o = [str sa, str sb, .pointer pq]) :
    (o.kind = 3 ∧ pq = none ∧ ∀ bs4, opC bs4 o = [str sa, str sb, .pointer none]) ∨ (o.kind ≠ 3 ∧ pq = some ⟨bs o.file, 0, none⟩ ∧ ∀ bs4 : Nat → Nat, opC bs4 o = [str sa, str sb, .pointer (some ⟨bs4 o.file, 0, none⟩)]) := by
  rcases hk with e | e | e
  · simp [opC, e] at h
    obtain ⟨h1, h2, h3⟩ := h
    exact .inr ⟨by omega, h3.symm, fun bs4 => by simp [opC, e, h1, h2]⟩
  · simp [opC, e] at h
    obtain ⟨h1, h2, h3⟩ := h
    exact .inr ⟨by omega, h3.symm, fun bs4 => by simp [opC, e, h1, h2]⟩
  · simp [opC, e] at h
    obtain ⟨h1, h2, h3⟩ := h
    exact .inl ⟨e, h3.symm, fun bs4 => by simp [opC, e, h1, h2]⟩
theorem of_op {W : World} {B mb : Nat} {bs bs' : Nat → Nat} {vs vs' : Nat → Value} {live done : List Nat} {fs : List FM} (h : CS W B mb bs live fs bs' vs' done) (hB : B ≤ W.heap.size) (old : FilesAt W bs vs live fs) (hlen : ∀ i ∈ live, (fileAt fs i).data.length ≤ 1000000000) {cb : Nat} {o : OpM} (hk : o.kind = 1 ∨ o.kind = 2 ∨ o.kind = 3) (hl : o.kind ≠ 3 → o.file ∈ live) {sa sb : Nm} {pq : Option Addr} (hc : opC bs o = [str sa, str sb, .pointer pq]) (hcb : W.cell? ⟨cb, 0, none⟩ = some (.map (some mb))) :
    Calls Try.prog 49 #[.pointer pq, .pointer (some ⟨cb, 0, none⟩)] W fun e W' => ∃ (bs4 : Nat → Nat) (vs4 : Nat → Value) (done4 : List Nat) (pq4 : Option Addr), e = .returned (.pointer pq4) ∧ opC bs4 o = [str sa, str sb, .pointer pq4] ∧ (o.kind ≠ 3 → o.file ∈ done4) ∧ CS W' B mb bs live fs bs4 vs4 done4 ∧ (∀ j ∈ done, j ∈ done4 ∧ bs4 j = bs' j) ∧ Frm [mb] W W' := by
  rcases opC_parts hk hc with ⟨h3, rfl, hop⟩ | ⟨h3, rfl, hop⟩
  · refine (of_nil h old hcb).mono ?_
    rintro e W' ⟨rfl, rfl⟩
    exact ⟨bs', vs', done, none, rfl, hop _, fun h9 => absurd h3 h9, h, fun j hj => ⟨hj, rfl⟩, Frm.refl _ _⟩
  · refine (of_any h hB old hlen (hl h3) hcb).mono ?_
    rintro e W' ⟨bs4, vs4, done4, rfl, hi, hcs, hext, hf⟩
    exact ⟨bs4, vs4, done4, _, rfl, hop _, fun _ => hi, hcs, hext, hf⟩
def CopyEnd (w : World) (m : DM) (w' : World) (e : Ending) : Prop := ∃ d fp, e = .returned (.pointer (some ⟨d, 0, none⟩)) ∧ PD w' d fp m ∧ Frm [] w w' ∧ ∀ x ∈ fp, w.heap.size ≤ x
set_option linter.unusedSimpArgs false in
set_option maxRecDepth 100000 in
set_option maxHeartbeats 8000000 in
theorem copy_any {w : World} {fp : List Nat} {d N : Nat} {m : DM} (h : PD w d fp m) (ho : DOk N m) (hN : N ≤ 90000) :
    Calls Try.prog 27 #[.pointer (some ⟨d, 0, none⟩)] w fun e w' => CopyEnd w m w' e := by
  obtain ⟨b1, b2, pv, bs, vs, live, hD, rfl⟩ := h
  obtain ⟨pa, pc, rfl, hpl⟩ := owns_shape hD.pend
  have hlen : ∀ i ∈ live, (fileAt m.files i).data.length ≤ 1000000000 := fun i hi => by have := (ho.fileAt (hD.files.lt i hi)).2; omega
  obtain ⟨L, hL⟩ : ∃ L, L = m.ops.length := ⟨_, rfl⟩
  have hLN : L ≤ 90000 := by have := ho.few2; omega
  have hmm := @run_makeMap Try.prog
  have f0 : Frm [] w (w.alloc (.map #[] 0)) := (Frm.refl [] w).alloc _
  have p0 : PMap (w.alloc (.map #[] 0)) w.heap.size [] := ⟨#[], 0, heap_alloc_new w _, rfl⟩
  obtain ⟨w1, hput, hp1, hf1⟩ := p0.put (k := none) (fun g hg => by cases hg) (by simp) rfl none
  have hput1 : (Instr.mapUpdate 79 (.map (some w.heap.size)) (.pointer none) (.pointer none)).run Try.prog (w.alloc (.map #[] 0)) = .ok () w1 := hput
  have f1 := f0.trans hf1 (by simp)
  have hs1 : w.heap.size < w1.heap.size := hp1.lt
  have q0 := f1.cell (hD.hd.cell (i := 0) rfl) (by simp)
  have q1 := f1.cell (hD.hd.cell (i := 1) rfl) (by simp)
  have q2 := f1.cell (hD.hd.cell (i := 2) rfl) (by simp)
  have q3 := f1.cell (hD.hd.cell (i := 3) rfl) (by simp)
  have q4 := f1.cell (hD.hd.cell (i := 4) rfl) (by simp)
  have q5 := f1.cell (hD.hd.cell (i := 5) rfl) (by simp)
  have q6 := f1.cell (hD.hd.cell (i := 6) rfl) (by simp)
  have hdl := hD.hd.lt
  have hd1 : d < w1.heap.size := by omega
  have F1 := Lib.hid f1
  have HP1 : Hid (PMap w1 w.heap.size (kvC bs bs [])) := Lib.hid hp1
  have HD := Lib.hid hD
  have HO := Lib.hid ho
  have HLEN := Lib.hid hlen
  have HL := Lib.hid hL
  have HLN := Lib.hid hLN
  rw [← hL] at q3 hpl
  clear hput hf1 p0 hp1 f0 f1 hD ho hN hlen hL hLN hdl
  go_enter Try.func27, Try.ntmps27
  go_wp2_with fail
  obtain ⟨wA, hwA, hsA, hfA, hcA, hoA, hrA⟩ : ∃ wA, wA = (((w1.alloc (.cells #[.map (some w.heap.size)] 79)).alloc (.cells #[(.func (Fn.func 49) #[] #[.pointer (some ⟨w1.heap.size, 0, none⟩)])] 81)).alloc (.cells #[.int .i64 (m.cap : Int), .map (some b1), .map (some b2), .slice pa L pc, .int .i64 m.count, .int .i64 (m.armed : Int), .bool m.off] 58)) ∧ wA.heap.size = w1.heap.size + 1 + 1 + 1 ∧ Frm [] w1 wA ∧ wA.cell? ⟨w1.heap.size, 0, none⟩ = some (.map (some w.heap.size)) ∧ wA.cell? ⟨w1.heap.size + 1, 0, none⟩ = some (.func (Fn.func 49) #[] #[.pointer (some ⟨w1.heap.size, 0, none⟩)]) ∧ RowAt wA (w1.heap.size + 1 + 1) 58 [.int .i64 (m.cap : Int), .map (some b1), .map (some b2), .slice pa L pc, .int .i64 m.count, .int .i64 (m.armed : Int), .bool m.off] := by
    have ha : (w1.alloc (.cells #[.map (some w.heap.size)] 79)).heap.size = w1.heap.size + 1 := by simp
    have hb : ((w1.alloc (.cells #[.map (some w.heap.size)] 79)).alloc (.cells #[(.func (Fn.func 49) #[] #[.pointer (some ⟨w1.heap.size, 0, none⟩)])] 81)).heap.size = w1.heap.size + 1 + 1 := by simp
    refine ⟨_, rfl, by simp, (((Frm.refl [] w1).alloc _).alloc _).alloc _, ?_, ?_, ?_⟩
    · exact ((((Frm.refl [] _).alloc _).alloc _).cell ((RowAt.made w1 79 [.map (some w.heap.size)] #[.map (some w.heap.size)] rfl).cell (i := 0) rfl) (by simp))
    · have h1 := (RowAt.made (w1.alloc (.cells #[.map (some w.heap.size)] 79)) 81 [(.func (Fn.func 49) #[] #[.pointer (some ⟨w1.heap.size, 0, none⟩)])] #[(.func (Fn.func 49) #[] #[.pointer (some ⟨w1.heap.size, 0, none⟩)])] rfl).cell (i := 0) rfl
      rw [ha] at h1
      exact ((Frm.refl [] _).alloc _).cell h1 (by simp)
    · have h1 := RowAt.made ((w1.alloc (.cells #[.map (some w.heap.size)] 79)).alloc (.cells #[(.func (Fn.func 49) #[] #[.pointer (some ⟨w1.heap.size, 0, none⟩)])] 81)) 58 [.int .i64 (m.cap : Int), .map (some b1), .map (some b2), .slice pa L pc, .int .i64 m.count, .int .i64 (m.armed : Int), .bool m.off] #[.int .i64 (m.cap : Int), .map (some b1), .map (some b2), .slice pa L pc, .int .i64 m.count, .int .i64 (m.armed : Int), .bool m.off] rfl
      rwa [hb] at h1
  rw [← hwA]
  obtain ⟨cb, hcb⟩ : ∃ cb, cb = w1.heap.size := ⟨_, rfl⟩
  obtain ⟨mb, hmb⟩ : ∃ mb, mb = w.heap.size := ⟨_, rfl⟩
  rw [← hcb] at hcA hoA
  rw [← hmb] at hcA
  rw [← hcb] at hrA hsA hs1
  rw [← hmb] at hs1 HP1
  rw [← hcb, ← hmb]
  have hFA : Frm [] w wA := F1.out.trans hfA (by simp)
  have hCSA : CS wA w.heap.size mb bs live m.files bs vs [] := ⟨HP1.out.frm hfA (by simp), by simp, ⟨by simp, by simp, by simp, by simp, by simp⟩, by simp [fileB], by rw [hmb]; exact Nat.le_refl _⟩
  have hOA := HD.out.files.frm hFA (by simp)
  have hm1A := HD.out.m1.frm hFA (by simp)
  have hm2A := HD.out.m2.frm hFA (by simp)
  have hdA := HD.out.hd.frm hFA (by simp)
  have hlt1 := HD.out.m1.lt
  have hlt2 := HD.out.m2.lt
  have hltd := HD.out.hd.lt
  have p1 := hdA.cell (i := 1) rfl
  have p2 := hdA.cell (i := 2) rfl
  have z1 := hrA.frozen 1
  have z2 := hrA.frozen 2
  have z3 := hrA.frozen 3
  have r1 := hrA.cell (i := 1) rfl
  have r2 := hrA.cell (i := 2) rfl
  have r3 := hrA.cell (i := 3) rfl
  have HCSA := Lib.hid hCSA
  have HOA := Lib.hid hOA
  have HM1A := Lib.hid hm1A
  have HM2A := Lib.hid hm2A
  have HFA := Lib.hid hFA
  have HRA := Lib.hid hrA
  have HCA := Lib.hid hcA
  have HOBA := Lib.hid hoA
  have HLT := Lib.hid (And.intro hlt1 (And.intro hlt2 (And.intro hltd (And.intro hmb (And.intro hs1 hsA)))))
  clear hwA hfA hcb hmb q0 q1 q2 q3 q4 q5 q6 hd1 hput1 hs1 hsA hFA hCSA hOA hm1A hm2A hdA hlt1 hlt2 hltd hrA hcA hoA F1 HP1
  have eg : ∀ args w, (callFunc 50 args).run Try.prog w = .ok (.enter 50 args) w := enters_of Try.func50 (by kernel_rfl) rfl
  go_region_law (first
    | ((try go_simp); refine (all_any hcs2 (by have := hsz2; have := HLT.out; omega) (HOA.out.keepm HCSA.out.map hf2') HLEN.out (hm22) HO.out.safeOk HD.out.live.safe cc2 (by have := HLT.out; omega) co2 (by have := HLT.out; omega) (by have := HLT.out; omega)).mono ?_; rintro e3 w3 ⟨bs3, vs3, done3, nb2, rfl, hnb2, hmd3, hdn3, hcs3, hext3, hf3⟩; have u1 := hf3.cell s1 (by have := HLT.out; simp; omega); have u2 := hf3.cell s2 (by have := HLT.out; simp; omega); have u3 := hf3.cell s3 (by have := HLT.out; simp; omega); have y1 := hf3.frz s1 x1 (by have := HLT.out; simp; omega); have y2 := hf3.frz s2 x2 (by have := HLT.out; simp; omega); have y3 := hf3.frz s3 x3 (by have := HLT.out; simp; omega))
    | ((try go_simp); refine (all_any (HCSA.out.nil ((Frm.refl [] wA).drew)) (by have := HLT.out; have := HFA.out.size; simp; omega) (HOA.out.frm ((Frm.refl [] wA).drew) (by simp)) HLEN.out (HM1A.out.frm ((Frm.refl [] wA).drew) (by simp)) HO.out.dirOk HD.out.live.dir (cb := cb) (ob := cb + 1) HCA.out (by have := HLT.out; omega) HOBA.out (by have := HLT.out; omega) (by have := HLT.out; omega)).mono ?_; rintro e2 w2 ⟨bs2, vs2, done2, nb1, rfl, hnb1, hmd2, hdn2, hcs2, hext2, hf2⟩; have hf2' : Frm [mb] wA w2 := Frm.trans (fp := [mb]) ((Frm.refl [mb] wA).drew) hf2 (fun y hy => .inl hy); have hsz2 := hf2'.size; have hm22 := HM2A.out.frm hf2' (by have := HLT.out; simp; omega); have cc2 := hf2'.cell HCA.out (by have := HLT.out; simp; omega); have co2 := hf2'.cell HOBA.out (by have := HLT.out; simp; omega); have t2 := hf2'.cell p2 (by have := HLT.out; simp; omega); have s1 := hf2'.cell r1 (by have := HLT.out; simp; omega); have s2 := hf2'.cell r2 (by have := HLT.out; simp; omega); have s3 := hf2'.cell r3 (by have := HLT.out; simp; omega); have x1 := hf2'.frz r1 z1 (by have := HLT.out; simp; omega); have x2 := hf2'.frz r2 z2 (by have := HLT.out; simp; omega); have x3 := hf2'.frz r3 z3 (by have := HLT.out; simp; omega)))
  all_goals
    have hx := HLT.out
    have hnb1' : wA.heap.size ≤ nb1 := hnb1
    have hn1l := hmd2.lt
    have hm13 : MapD w3 nb1 bs3 m.dir := by
      have h1 := hmd2.frm hf3 (by simp; omega)
      rw [MapD, dirDat_congr (bs := bs2) (bs' := bs3) (fun p hp => (hext3 p.2 (hdn2 p hp)).2)]
      exact h1
    have hdn23 : ∀ p ∈ m.dir, p.2 ∈ done3 := fun p hp => (hext3 p.2 (hdn2 p hp)).1
    have fz : Frm [cb + 1 + 1] w3 (((w3.setCell ⟨cb + 1 + 1, 1, none⟩ (.map (some nb1))).setCell ⟨cb + 1 + 1, 2, none⟩ (.map (some nb2))).setCell ⟨cb + 1 + 1, 3, none⟩ (.slice none 0 0)) := (((Frm.refl [cb + 1 + 1] w3).setCell (p := ⟨cb + 1 + 1, 1, none⟩) (.inl (by simp)) _).setCell (p := ⟨cb + 1 + 1, 2, none⟩) (.inl (by simp)) _).setCell (p := ⟨cb + 1 + 1, 3, none⟩) (.inl (by simp)) _
    have hr3' := (HRA.out.frm hf2' (by simp; omega)).frm hf3 (by simp; omega)
    have hrB := ((hr3'.setCell 1 (.map (some nb1))).setCell 2 (.map (some nb2))).setCell 3 (.slice none 0 0)
    have hcsB := hcs3.frm fz (by simp; omega) (fun k hk hm => hcs3.ne_disk hr3' k hk (by rwa [List.mem_singleton] at hm))
    have hm1B := hm13.frm fz (by simp; omega)
    have hm2B := hmd3.frm fz (by simp; omega)
    have hfB : Frm [] w (((w3.setCell ⟨cb + 1 + 1, 1, none⟩ (.map (some nb1))).setCell ⟨cb + 1 + 1, 2, none⟩ (.map (some nb2))).setCell ⟨cb + 1 + 1, 3, none⟩ (.slice none 0 0)) := ((HFA.out.trans hf2' (fun y hy => by rw [List.mem_singleton] at hy; right; omega)).trans hf3 (fun y hy => by rw [List.mem_singleton] at hy; right; omega)).trans fz (fun y hy => by rw [List.mem_singleton] at hy; right; omega)
    have hcB2 := hf2'.cell HCA.out (by simp; omega)
    have hcB3 := hf3.cell hcB2 (by simp; omega)
    have hcB := fz.cell hcB3 (by simp; try omega)
    have hoB2 := hf2'.cell HOBA.out (by simp; omega)
    have hoB3 := hf3.cell hoB2 (by simp; omega)
    have hoB := fz.cell hoB3 (by simp; try omega)
    have hn2l := hm2B.lt
    have hszB := hfB.size
    have HNB : Hid (nb1 ≠ nb2 ∧ wA.heap.size ≤ nb1 ∧ wA.heap.size ≤ nb2) := Lib.hid ⟨by omega, hnb1', by have := hf2'.size; omega⟩
    have HCSB := Lib.hid hcsB
    have HM1B := Lib.hid hm1B
    have HM2B := Lib.hid hm2B
    have HFB := Lib.hid hfB
    have HCB := Lib.hid hcB
    have HOBB := Lib.hid hoB
    have HRB : Hid (RowAt (((w3.setCell ⟨cb + 1 + 1, 1, none⟩ (.map (some nb1))).setCell ⟨cb + 1 + 1, 2, none⟩ (.map (some nb2))).setCell ⟨cb + 1 + 1, 3, none⟩ (.slice none 0 0)) (cb + 1 + 1) 58 [.int .i64 (m.cap : Int), .map (some nb1), .map (some nb2), .slice none 0 0, .int .i64 m.count, .int .i64 (m.armed : Int), .bool m.off]) := Lib.hid hrB
    have HDN1 := Lib.hid hdn23
    have HDN2 := Lib.hid hdn3
    have hszA : wA.heap.size ≤ (((w3.setCell ⟨cb + 1 + 1, 1, none⟩ (.map (some nb1))).setCell ⟨cb + 1 + 1, 2, none⟩ (.map (some nb2))).setCell ⟨cb + 1 + 1, 3, none⟩ (.slice none 0 0)).heap.size := Nat.le_trans hf2'.size (Nat.le_trans hf3.size fz.size)
    have HSZA := Lib.hid hszA
    clear hx hn1l hm13 hdn23 fz hr3' hrB hcsB hm1B hm2B hfB hcB hoB hn2l hszB hmd2 hdn2 hcs2 hext2 hf2 hf2' hsz2 hm22 cc2 co2 t2 s1 s2 s3 x1 x2 x3 hmd3 hdn3 hcs3 hext3 hf3 u1 u2 u3 y1 y2 y3 hnb1 hnb1' hcB2 hcB3 hoB2 hoB3 hnb2 eg p1 p2 z1 z2 z3 r1 r2 r3 HCSA HOA HM1A HM2A HRA HCA HOBA hszA
    generalize (((w3.setCell ⟨cb + 1 + 1, 1, none⟩ (.map (some nb1))).setCell ⟨cb + 1 + 1, 2, none⟩ (.map (some nb2))).setCell ⟨cb + 1 + 1, 3, none⟩ (.slice none 0 0)) = wB at *
    have pd3 := HFB.out.cell (HD.out.hd.cell (i := 3) rfl) (by simp)
    rw [← HL.out] at pd3
    go_wp2_with fail
    go_loopg [8, 36] L (fun q s8 s36 wr => ∃ (k : Nat) (bs' : Nat → Nat) (vs' : Nat → Value) (done : List Nat) (ak : Option Addr) (ck : Nat), q = L - k ∧ k ≤ L ∧ s36 = .int .i64 (k : Int) ∧ CS wr w.heap.size mb bs live m.files bs' vs' done ∧ (∀ j ∈ done3, j ∈ done ∧ bs' j = bs3 j) ∧ MapD wr nb1 bs3 m.dir ∧ MapD wr nb2 bs3 m.safe ∧ RowAt wr (cb + 1 + 1) 58 [.int .i64 (m.cap : Int), .map (some nb1), .map (some nb2), .slice ak k ck, .int .i64 m.count, .int .i64 (m.armed : Int), .bool m.off] ∧ wr.ownsRow wA.heap.size 65 3 (.slice ak k ck) k (opsC bs' (m.ops.take k)) ∧ (∀ o ∈ m.ops.take k, o.kind ≠ 3 → o.file ∈ done) ∧ Frm [] w wr ∧ wA.heap.size ≤ wr.heap.size ∧ wr.cell? ⟨cb + 1, 0, none⟩ = some (.func (Fn.func 49) #[] #[.pointer (some ⟨cb, 0, none⟩)]) ∧ wr.cell? ⟨cb, 0, none⟩ = some (.map (some mb)))
    case atStart => exact ⟨0, bs3, vs3, done3, none, 0, rfl, Nat.zero_le _, rfl, HCSB.out, fun j hj => ⟨hj, rfl⟩, HM1B.out, HM2B.out, HRB.out, World.ownsRow_nil _ _ _ _, fun o ho => by simp at ho, HFB.out, HSZA.out, HOBB.out, HCB.out⟩
    case round =>
      obtain ⟨k, bs', vs', done, ak, ck, rfl, hk, rfl, hcs, hext, hm1, hm2, hrw, hown, hops, hfr, hszr, hor, hcr⟩ := hrel
      have HCS := Lib.hid hcs
      have HEXT := Lib.hid hext
      have HM1 := Lib.hid hm1
      have HM2 := Lib.hid hm2
      have HRW := Lib.hid hrw
      have HOWN := Lib.hid hown
      have HOPS := Lib.hid hops
      have HFR := Lib.hid hfr
      have HSZ := Lib.hid hszr
      have i4 : (0 : Int) ≤ (k : Int) := by omega
      clear hcs hext hm1 hm2 hrw hown hops hfr hszr
      by_cases hlt : k < L
      · have i5 : (k : Int) < (L : Int) := by omega
        have i7 : (L : Int) ≤ (pc : Int) := by
          rcases HD.out.pend.2 with ⟨h1, h0⟩ | ⟨g, cap, cur, h0, _, _, h1, _, _, _⟩
          · have := HL.out; omega
          · simp only [Value.slice.injEq] at h0
            have := HL.out; omega
        have i8 : (pc : Int) ≤ 9223372036854775807 := by
          rcases HD.out.pend.2 with ⟨h1, h0⟩ | ⟨g, cap, cur, h0, _, _, _, h2, _, _⟩
          · simp only [Value.slice.injEq] at h1
            rw [h1.2.2]; decide
          · simp only [Value.slice.injEq] at h0
            unfold maxLen at h2
            omega
        obtain ⟨o, hoo⟩ : ∃ o, m.ops[k]? = some o := ⟨_, List.getElem?_eq_getElem (by rw [← HL.out]; exact hlt)⟩
        have hkd := (HO.out.ops o (List.mem_of_getElem? hoo)).kinds
        obtain ⟨sa, sb, pq, hc⟩ := opC_shape bs o
        obtain ⟨pg, pcc, hpv, _, _, hprow⟩ := owns_some HD.out.pend (by rw [← HL.out]; omega)
        simp only [Value.slice.injEq] at hpv
        obtain ⟨rfl, -, rfl⟩ := hpv
        have hprw := hprow.frm HFR.out (by simp)
        have g0 := hprw.cell (i := k * 3) (by have := opsC_get bs hoo 0 (by omega); rw [Nat.add_zero, hc] at this; exact this)
        have g1 := hprw.cell (i := k * 3 + 1) (by have := opsC_get bs hoo 1 (by omega); rw [hc] at this; exact this)
        have g2 := hprw.cell (i := k * 3 + 2) (by have := opsC_get bs hoo 2 (by omega); rw [hc] at this; exact this)
        have r5 := RowAt.made wr 65 [str sa, str sb, .pointer pq] #[str sa, str sb, .pointer pq] rfl
        have f5 : Frm [] wr (wr.alloc (.cells #[str sa, str sb, .pointer pq] 65)) := (Frm.refl [] wr).alloc _
        have R5 := Lib.hid r5
        have F5 := Lib.hid f5
        have HOO := Lib.hid hoo
        have HKD := Lib.hid hkd
        have HC := Lib.hid hc
        have HCS5 := Lib.hid (HCS.out.nil f5)
        have HRW5 := Lib.hid (HRW.out.frm f5 (by simp))
        have HOWN5 := Lib.hid (ownsB_frm HOWN.out f5 (by simp))
        have HFR5 : Hid (Frm [] w (wr.alloc (.cells #[str sa, str sb, .pointer pq] 65))) := Lib.hid (HFR.out.trans f5 (by simp))
        have HOR5 := Lib.hid (f5.cell hor (by simp))
        have HCR5 := Lib.hid (f5.cell hcr (by simp))
        have HOLD5 := Lib.hid (HD.out.files.frm HFR5.out (by simp))
        have hcdl := HRW.out.lt
        have hw5 : (wr.alloc (.cells #[str sa, str sb, .pointer pq] 65)).heap.size = wr.heap.size + 1 := by simp
        clear hoo hkd hc hprow hprw r5 f5 hor hcr
        go_wp2_with fail
        clear g0 g1 g2
        obtain ⟨x5, hx5⟩ : ∃ x, x = wr.heap.size := ⟨_, rfl⟩
        have HX5E := Lib.hid hx5
        rw [← hx5] at R5 hw5 hcdl ⊢
        have HX5 : Hid (wA.heap.size ≤ x5) := Lib.hid (by have := HSZ.out; omega)
        generalize wr.alloc (.cells #[str sa, str sb, .pointer pq] 65) = w5 at *
        have h5a : mb < cb := by have := HLT.out; omega
        have h5b : cb + 1 + 1 < wA.heap.size := by have := HLT.out; omega
        have h5c : w.heap.size ≤ mb := by have := HLT.out; omega
        have eg1 : ∀ args w, (callFunc 49 args).run Try.prog w = .ok (.enter 49 args) w := enters_of Try.func49 (by kernel_rfl) rfl
        have hx5A := HX5.out
        clear hx5
        refine' wp_region_last (L := 14) _ (fun w' => w'.cell? ⟨x5, 0, none⟩ = some (str sa) ∧ w'.cell? ⟨x5, 1, none⟩ = some (str sb) ∧ w'.cell? ⟨x5, 2, none⟩ = some (.pointer pq) ∧ w'.cell? ⟨cb + 1, 0, none⟩ = some (.func (Fn.func 49) #[] #[.pointer (some ⟨cb, 0, none⟩)]) ∧ w'.cell? ⟨cb + 1 + 1, 3, none⟩ = some (.slice ak k ck)) (by kernel_rfl) rfl rfl rfl rfl ?he (by kernel_rfl) (by kernel_rfl) ?hS ?h
        case he =>
          simp only [nopOf, List.getElem_toArray, List.getElem_cons_succ, List.getElem_cons_zero, List.setIfInBounds_toArray, List.set_cons_succ, List.set_cons_zero]
          rfl
        case hS => exact ⟨R5.out.cell (i := 0) rfl, R5.out.cell (i := 1) rfl, R5.out.cell (i := 2) rfl, HOR5.out, HRW5.out.cell (i := 3) rfl⟩
        intro hHeld
        refine wpAnyH_take (i := 0) (v := ?_) rfl (by kernel_rfl) (by kernel_rfl) (by kernel_rfl) (fun _ _ _ h => h) (Or.inl ⟨by rfl, ?_⟩) (by assumption) ?_
        rotate_left
        · intro w9 hS9
          try dsimp only at hS9
          go_split_ands
          go_simp
          try with_reducible rfl
        try simp only [Act.put, List.getElem_toArray, List.getElem_cons_succ, List.getElem_cons_zero, List.setIfInBounds_toArray, List.set_cons_zero, List.set_cons_succ]
        refine wpAnyH_take (i := 1) (v := ?_) rfl (by kernel_rfl) (by kernel_rfl) (by kernel_rfl) (fun _ _ _ h => h) (Or.inl ⟨by rfl, ?_⟩) (by assumption) ?_
        rotate_left
        · intro w9 hS9
          try dsimp only at hS9
          go_split_ands
          go_simp
          try with_reducible rfl
        try simp only [Act.put, List.getElem_toArray, List.getElem_cons_succ, List.getElem_cons_zero, List.setIfInBounds_toArray, List.set_cons_zero, List.set_cons_succ]
        refine wpAnyH_take (i := 2) (v := ?_) rfl (by kernel_rfl) (by kernel_rfl) (by kernel_rfl) (fun _ _ _ h => h) (Or.inl ⟨by rfl, ?_⟩) (by assumption) ?_
        rotate_left
        · intro w9 hS9
          try dsimp only at hS9
          go_split_ands
          go_simp
          try with_reducible rfl
        try simp only [Act.put, List.getElem_toArray, List.getElem_cons_succ, List.getElem_cons_zero, List.setIfInBounds_toArray, List.set_cons_zero, List.set_cons_succ]
        refine wpAnyH_take (i := 3) (v := ?_) rfl (by kernel_rfl) (by kernel_rfl) (by kernel_rfl) (fun _ _ _ h => h) (Or.inl ⟨by rfl, ?_⟩) (by assumption) ?_
        rotate_left
        · intro w9 hS9
          try dsimp only at hS9
          go_split_ands
          go_simp
          try with_reducible rfl
        try simp only [Act.put, List.getElem_toArray, List.getElem_cons_succ, List.getElem_cons_zero, List.setIfInBounds_toArray, List.set_cons_zero, List.set_cons_succ]
        refine wpAnyH_take (i := 4) (v := ?_) rfl (by kernel_rfl) (by kernel_rfl) (by kernel_rfl) (fun _ _ _ h => h) (Or.inl ⟨by rfl, ?_⟩) (by assumption) ?_
        rotate_left
        · intro w9 hS9
          try dsimp only at hS9
          go_split_ands
          go_simp
          try with_reducible rfl
        try simp only [Act.put, List.getElem_toArray, List.getElem_cons_succ, List.getElem_cons_zero, List.setIfInBounds_toArray, List.set_cons_zero, List.set_cons_succ]
        refine wpAnyH_take (i := 5) (v := ?_) rfl (by kernel_rfl) (by kernel_rfl) (by kernel_rfl) (fun _ _ _ h => h) (Or.inl ⟨by rfl, ?_⟩) (by assumption) ?_
        rotate_left
        · intro w9 hS9
          try dsimp only at hS9
          go_split_ands
          go_simp
          try with_reducible rfl
        try simp only [Act.put, List.getElem_toArray, List.getElem_cons_succ, List.getElem_cons_zero, List.setIfInBounds_toArray, List.set_cons_zero, List.set_cons_succ]
        refine wpAnyH_take (i := 6) (v := ?_) rfl (by kernel_rfl) (by kernel_rfl) (by kernel_rfl) (fun _ _ _ h => h) (Or.inl ⟨by rfl, ?_⟩) (by assumption) ?_
        rotate_left
        · intro w9 hS9
          try dsimp only at hS9
          go_split_ands
          go_simp
          try with_reducible rfl
        try simp only [Act.put, List.getElem_toArray, List.getElem_cons_succ, List.getElem_cons_zero, List.setIfInBounds_toArray, List.set_cons_zero, List.set_cons_succ]
        refine wpAnyH_take (i := 7) (v := ?_) rfl (by kernel_rfl) (by kernel_rfl) (by kernel_rfl) (fun _ _ _ h => h) (Or.inl ⟨by rfl, ?_⟩) (by assumption) ?_
        rotate_left
        · intro w9 hS9
          try dsimp only at hS9
          go_split_ands
          go_simp
          try with_reducible rfl
        try simp only [Act.put, List.getElem_toArray, List.getElem_cons_succ, List.getElem_cons_zero, List.setIfInBounds_toArray, List.set_cons_zero, List.set_cons_succ]
        refine wpAnyH_take (i := 8) (v := ?_) rfl (by kernel_rfl) (by kernel_rfl) (by kernel_rfl) (fun _ _ _ h => h) (Or.inl ⟨by rfl, ?_⟩) (by assumption) ?_
        rotate_left
        · intro w9 hS9
          try dsimp only at hS9
          go_split_ands
          go_simp
          try with_reducible rfl
        try simp only [Act.put, List.getElem_toArray, List.getElem_cons_succ, List.getElem_cons_zero, List.setIfInBounds_toArray, List.set_cons_zero, List.set_cons_succ]
        refine wpAnyH_ready (rs := [9]) (by kernel_rfl) (by simp) ?_
        refine AllReadyH.cons rfl (fun K hK => ?_) AllReadyH.nil
        go_simp
        refine (of_op (HCS5.out.nil ((Frm.refl [] w5).drew)) (by have := HFR5.out.size; exact this) (HOLD5.out.frm ((Frm.refl [] w5).drew) (by simp)) HLEN.out HKD.out (HD.out.live.ops o (List.mem_of_getElem? HOO.out)) HC.out HCR5.out).mono ?_
        rintro e6 w6 ⟨bs4, vs4, done4, pq4, rfl, hop4, hin4, hcs4, hext4, hf6⟩
        have f6 : Frm [mb] w5 w6 := Frm.trans (fp := [mb]) ((Frm.refl [mb] w5).drew) hf6 (fun y hy => .inl hy)
        refine hK.out _ _ ?_ (fun hHeld => ?_)
        · exact ⟨f6.cell (R5.out.cell (i := 0) rfl) (by simp; omega), f6.cell (R5.out.cell (i := 1) rfl) (by simp; omega), f6.cell (R5.out.cell (i := 2) rfl) (by simp; omega), f6.cell HOR5.out (by simp; omega), f6.cell (HRW5.out.cell (i := 3) rfl) (by simp; omega)⟩
        clear hK K
        try simp only [Act.put, List.getElem_toArray, List.getElem_cons_succ, List.getElem_cons_zero, List.setIfInBounds_toArray, List.set_cons_zero, List.set_cons_succ]
        refine wpAnyH_take (i := 10) (v := ?_) rfl (by kernel_rfl) (by kernel_rfl) (by kernel_rfl) (fun _ _ _ h => h) (Or.inl ⟨by rfl, ?_⟩) (by assumption) ?_
        rotate_left
        · intro w9 hS9
          try dsimp only at hS9
          go_split_ands
          go_simp
          try with_reducible rfl
        try simp only [Act.put, List.getElem_toArray, List.getElem_cons_succ, List.getElem_cons_zero, List.setIfInBounds_toArray, List.set_cons_zero, List.set_cons_succ]
        refine wpAnyH_ready (rs := [11]) (by kernel_rfl) (by simp) ?_
        refine AllReadyH.cons rfl (fun K hK => ?_) AllReadyH.nil
        go_simp
        have q11 : Frm [mb] w5 (w6.alloc (.cells #[str sa, str sb, .pointer pq4] 65)) := f6.alloc _
        refine hK.out _ _ ?_ (fun hHeld => ?_)
        · exact ⟨q11.cell (R5.out.cell (i := 0) rfl) (by simp; omega), q11.cell (R5.out.cell (i := 1) rfl) (by simp; omega), q11.cell (R5.out.cell (i := 2) rfl) (by simp; omega), q11.cell HOR5.out (by simp; omega), q11.cell (HRW5.out.cell (i := 3) rfl) (by simp; omega)⟩
        clear hK K
        try simp only [Act.put, List.getElem_toArray, List.getElem_cons_succ, List.getElem_cons_zero, List.setIfInBounds_toArray, List.set_cons_zero, List.set_cons_succ]
        refine wpAnyH_ready (rs := [12]) (by kernel_rfl) (by simp) ?_
        refine AllReadyH.cons rfl (fun K hK => ?_) AllReadyH.nil
        have hown6 : (w6.alloc (.cells #[str sa, str sb, .pointer pq4] 65)).ownsRow wA.heap.size 65 3 (.slice ak k ck) k (opsC bs' (m.ops.take k)) := ownsB_frm HOWN5.out q11 (fun y hy hm => by rw [List.mem_singleton] at hm; have := (HOWN5.out.lt y hy).1; omega)
        refine step_app_row rfl (.tmp 41) (.tmp 51) 56 65 _ 3 40 rfl Try.underlying56 infoOp rfl (by decide) (by decide) wA.heap.size k (.slice ak k ck) (opsC bs' (m.ops.take k)) rfl hown6 _ 1 [str sa, str sb, .pointer pq4] [] rfl (rowV_cells (size := 3) (RowAt.made w6 65 [str sa, str sb, .pointer pq4] #[str sa, str sb, .pointer pq4] rfl) rfl (Nat.le_refl _) (by decide) (by simp)) (by intro u hu; simp at hu; rcases hu with rfl | rfl | rfl <;> rfl) (k + 1) rfl (by have := HLN.out; omega) (by have := q11.size; omega) ?_
        intro a9 c9 w9 own9 hf9
        have hnot : ∀ y ∈ mb :: (Value.slice ak k ck).ownBlock.toList, y = mb ∨ (wA.heap.size ≤ y ∧ y < x5) := fun y hy => by
          rcases List.mem_cons.1 hy with rfl | hy
          · exact .inl rfl
          · have h9 : (Value.slice ak k ck).ownBlock = some y := by simpa using hy
            have := HOWN.out.lt y h9
            have := HX5E.out
            right
            omega
        have q9 : Frm (mb :: (Value.slice ak k ck).ownBlock.toList) w5 w9 := (q11.mono (fun y hy => by rw [List.mem_singleton] at hy; rw [hy]; exact List.mem_cons_self)).trans hf9 (fun y hy => .inl (List.mem_cons_of_mem _ hy))
        have hnm : ∀ y, y ≠ mb → (y < wA.heap.size ∨ x5 ≤ y) → y ∉ mb :: (Value.slice ak k ck).ownBlock.toList := fun y h1 h2 hm => by
          rcases hnot y hm with h9 | h9
          · exact h1 h9
          · omega
        refine hK.out _ _ ?_ (fun hHeld => ?_)
        · exact ⟨q9.cell (R5.out.cell (i := 0) rfl) (hnm _ (by simp; omega) (.inr (by simp))), q9.cell (R5.out.cell (i := 1) rfl) (hnm _ (by simp; omega) (.inr (by simp))), q9.cell (R5.out.cell (i := 2) rfl) (hnm _ (by simp; omega) (.inr (by simp))), q9.cell HOR5.out (hnm _ (by simp; omega) (.inl (by simp; omega))), q9.cell (HRW5.out.cell (i := 3) rfl) (hnm _ (by simp; omega) (.inl (by simp; omega)))⟩
        clear hK K
        try simp only [Act.put, List.getElem_toArray, List.getElem_cons_succ, List.getElem_cons_zero, List.setIfInBounds_toArray, List.set_cons_zero, List.set_cons_succ]
        refine wpAnyH_take (i := 13) (v := ?_) rfl (by kernel_rfl) (by kernel_rfl) (by kernel_rfl) (fun _ _ _ h => h) (Or.inl ⟨by rfl, ?_⟩) (by assumption) ?_
        rotate_left
        · intro w9 hS9
          try dsimp only at hS9
          go_split_ands
          go_simp
          try with_reducible rfl
        try simp only [Act.put, List.getElem_toArray, List.getElem_cons_succ, List.getElem_cons_zero, List.setIfInBounds_toArray, List.set_cons_zero, List.set_cons_succ]
        refine wpAnyH_take (i := 14) (v := ?_) rfl (by kernel_rfl) (by kernel_rfl) (by kernel_rfl) (fun _ _ _ h => h) (Or.inl ⟨by rfl, ?_⟩) (by assumption) ?_
        rotate_left
        · intro w9 hS9
          try dsimp only at hS9
          go_split_ands
          go_simp
          try with_reducible rfl
        try simp only [Act.put, List.getElem_toArray, List.getElem_cons_succ, List.getElem_cons_zero, List.setIfInBounds_toArray, List.set_cons_zero, List.set_cons_succ]
        have rw9 := HRW5.out.frm q9 (hnm _ (by omega) (.inl (by omega)))
        have oc9 := rw9.cell (i := 3) rfl
        have oz9 := rw9.frozen 3
        refine wpAnyH_done (by kernel_rfl) ?_ _
        refine Qt.last rfl rfl ?_
        simp only [List.getElem_toArray, List.getElem_cons_succ, List.getElem_cons_zero]
        have hos : ∀ y ∈ (Value.slice ak k ck).ownBlock.toList, (Value.slice ak k ck).ownBlock = some y := fun y hy => by simpa using hy
        have cs7 := hcs4.nil ((Frm.refl [] w6).alloc (.cells #[str sa, str sb, .pointer pq4] 65))
        have cs9 := cs7.frm hf9 (fun hm => by have := (HOWN.out.lt mb (hos _ hm)).1; omega) (fun y hy hm => cs7.ne_own hown6 (by decide) (by decide) y hy (hos _ hm))
        have fz : Frm [cb + 1 + 1] w9 (w9.setCell ⟨cb + 1 + 1, 3, none⟩ (.slice a9 (k + 1) c9)) := (Frm.refl [cb + 1 + 1] w9).setCell (p := ⟨cb + 1 + 1, 3, none⟩) (.inl (by simp)) _
        have HCSZ := Lib.hid (cs9.frm fz (by simp; omega) (fun y hy hm => cs9.ne_disk rw9 y hy (by rwa [List.mem_singleton] at hm)))
        have HRWZ := Lib.hid (rw9.setCell 3 (.slice a9 (k + 1) c9))
        have hnb := HNB.out
        have hm15 := HM1.out.frm F5.out (by simp)
        have hm25 := HM2.out.frm F5.out (by simp)
        have hm16 := hm15.frm q11 (by simp; omega)
        have hm26 := hm25.frm q11 (by simp; omega)
        have HM1Z := Lib.hid ((hm16.frm hf9 (fun hm => MapD.ne_own hm16 hown6 _ (hos _ hm) rfl)).frm fz (by simp; omega))
        have HM2Z := Lib.hid ((hm26.frm hf9 (fun hm => MapD.ne_own hm26 hown6 _ (hos _ hm) rfl)).frm fz (by simp; omega))
        have HORZ := Lib.hid (fz.cell (q9.cell HOR5.out (hnm _ (by simp; omega) (.inl (by simp; omega)))) (by simp))
        have HCRZ := Lib.hid (fz.cell (q9.cell HCR5.out (hnm _ (by simp; omega) (.inl (by simp; omega)))) (by simp; try omega))
        have hwsz := HFA.out.size
        have HFRZ : Hid (Frm [] w (w9.setCell ⟨cb + 1 + 1, 3, none⟩ (.slice a9 (k + 1) c9))) := Lib.hid ((HFR5.out.trans q9 (fun y hy => by rcases hnot y hy with h9 | h9 <;> (right; omega))).trans fz (fun y hy => by rw [List.mem_singleton] at hy; right; omega))
        have HSZZ : Hid (wA.heap.size ≤ (w9.setCell ⟨cb + 1 + 1, 3, none⟩ (.slice a9 (k + 1) c9)).heap.size) := Lib.hid (by have := q9.size; have := fz.size; omega)
        have hopsE : opsC bs' (m.ops.take k) ++ [str sa, str sb, .pointer pq4] = opsC bs4 (m.ops.take (k + 1)) := by
          rw [List.take_add_one, HOO.out, opsC_congr (bs := bs4) (bs' := bs') (fun o' ho' h3 => (hext4 _ (HOPS.out o' ho' h3)).2.symm) (fun o' ho' => (HO.out.ops o' (List.mem_of_mem_take ho')).kinds)]
          simp [opsC, hop4]
        rw [hopsE] at own9
        have HOWNZ := Lib.hid (ownsB_other own9 (p := ⟨cb + 1 + 1, 3, none⟩) (by show cb + 1 + 1 < _; omega) (.slice a9 (k + 1) c9))
        have HEXTZ : Hid (∀ j ∈ done3, j ∈ done4 ∧ bs4 j = bs3 j) := Lib.hid (fun j hj => ⟨(hext4 j (HEXT.out j hj).1).1, (hext4 j (HEXT.out j hj).1).2.trans (HEXT.out j hj).2⟩)
        have HOPSZ : Hid (∀ o' ∈ m.ops.take (k + 1), o'.kind ≠ 3 → o'.file ∈ done4) := Lib.hid (fun o' ho' h3 => by
          rw [List.take_add_one, HOO.out] at ho'
          rcases List.mem_append.1 ho' with h9 | h9
          · exact (hext4 _ (HOPS.out o' h9 h3)).1
          · have : o' = o := by simpa using h9
            rw [this] at h3 ⊢
            exact hin4 h3)
        clear hHeld hos cs7 cs9 hm15 hm25 hm16 hm26 hnm hnot q9 q11 f6 hf6 hf9 own9 hown6 hcs4 hext4 hin4 hop4 hopsE hnb hwsz fz rw9 eg1 h5a h5b h5c hx5A hw5 hcdl
        go_simp
        generalize w9.setCell ⟨cb + 1 + 1, 3, none⟩ (.slice a9 (k + 1) c9) = wz at *
        go_wp2_with fail
        go_roundg (L - (k + 1))
        case rel => exact ⟨k + 1, bs4, vs4, done4, a9, c9, rfl, hlt, by go_num, HCSZ.out, HEXTZ.out, HM1Z.out, HM2Z.out, HRWZ.out, HOWNZ.out, HOPSZ.out, HFRZ.out, HSZZ.out, HORZ.out, HCRZ.out⟩
        case measure => omega
      · have i5 : ¬ (k : Int) < (L : Int) := by omega
        have hkL : k = L := by omega
        have HKL := Lib.hid hkL
        clear hkL
        go_wp2_with fail
        go_ret
        have htk : m.ops.take k = m.ops := List.take_of_length_le (by rw [HKL.out, HL.out]; exact Nat.le_refl _)
        have hown := HOWN.out
        rw [htk] at hown
        have hops := HOPS.out
        rw [htk] at hops
        have hx := HLT.out
        have hnb := HNB.out
        have hd1 : ∀ p ∈ m.dir, p.2 ∈ done := fun p hp => (HEXT.out _ (HDN1.out p hp)).1
        have hd2 : ∀ p ∈ m.safe, p.2 ∈ done := fun p hp => (HEXT.out _ (HDN2.out p hp)).1
        have hm1 : MapD wr nb1 bs' m.dir := by
          rw [MapD, dirDat_congr (bs := bs3) (bs' := bs') (fun p hp => (HEXT.out _ (HDN1.out p hp)).2)]
          exact HM1.out
        have hm2 : MapD wr nb2 bs' m.safe := by
          rw [MapD, dirDat_congr (bs := bs3) (bs' := bs') (fun p hp => (HEXT.out _ (HDN2.out p hp)).2)]
          exact HM2.out
        have hDR : DR wr (cb + 1 + 1) nb1 nb2 (.slice ak k ck) bs' vs' done m := ⟨HRW.out, hm1, hm2, hnb.1, by rw [← HL.out, ← HKL.out]; exact ownsB_mono hown (Nat.zero_le _), HCS.out.files, ⟨hd1, hd2, hops⟩⟩
        refine ⟨cb + 1 + 1, _, rfl, ⟨_, _, _, _, _, _, hDR, rfl⟩, HFR.out, fun y hy => ?_⟩
        have hFA := HFA.out.size
        simp only [fpR, List.mem_cons, List.mem_append] at hy
        rcases hy with rfl | rfl | rfl | hy | hy
        · omega
        · omega
        · omega
        · have := (hown.lt y (by simpa using hy)).1; omega
        · exact HCS.out.new y hy

end Go.Proofs.Ytkebdgbjgbcneaa
