/- act of the law: one call on both disks. -/
import Derived.Test.YtkebdgbjgbcneaaEJ
namespace Go.Proofs.Ytkebdgbjgbcneaa
open Go.RowKit Go.Maps Go.Shelf

def ActM (m m' : DM) : Prop := m' = m ∨ (∃ s ∈ names7, ∃ b : List UInt8, b.length ≤ 9 ∧ m' = (appendM m s b).2) ∨ (∃ s ∈ names7, m' = (syncM m s).2) ∨ (∃ s ∈ names7, ∃ t ∈ names7, m' = (renameM m s t).2) ∨ (∃ s ∈ names7, m' = (deleteM m s).2) ∨ (∃ n : Int, m' = failM m n) ∨ (∃ keep, m' = crashM m keep)
/-- What act leaves. -/
def ActEnd (w0 w : World) (fp S : List Nat) (d r N B tb M : Nat) (m : DM) (w' : World) : Prop :=
  ∃ fp' m', ActM m m' ∧ BoX w0 w' fp' S d r (N + 2) m' m' ∧ (∀ x ∈ fp', x ∈ fp ∨ w.heap.size ≤ x) ∧ TapeOk B w' tb (M + 10) ∧ Frm (tb :: r :: fp) w w'
/-- Inside act. -/
structure AS (w0 w w' : World) (fp0 fp S : List Nat) (d r N : Nat) (m1 m2 : DM) (B tb M x : Nat) : Prop where
  bo : BoX w0 w' fp (x :: S) d r N m1 m2
  sub : ∀ y ∈ fp, y ∈ fp0 ∨ w.heap.size ≤ y
  tape : TapeOk B w' tb M
  frm : Frm (tb :: r :: fp0) w w'
  row : RowAt w' x 47 [.pointer (some ⟨d, 0, none⟩), .pointer (some ⟨r, 0, none⟩)]
  tS : tb ∈ S
  xb : w.heap.size ≤ x ∧ tb < w.heap.size
  low : B ≤ w0.heap.size
section
variable {w0 w w' w'' : World} {fp0 fp S : List Nat} {d r N N' B tb M M' x : Nat} {m m1 m2 m1' m2' : DM}
theorem AS.next (h : AS w0 w w' fp0 fp S d r N m1 m2 B tb M x) (hf : Frm [tb] w' w'') (ht : TapeOk B w'' tb M') : AS w0 w w'' fp0 fp S d r N m1 m2 B tb M' x :=
  ⟨h.bo.step hf (fun y hy => by rw [List.mem_singleton] at hy; rw [hy]; exact List.mem_cons_of_mem _ h.tS), h.sub, ht, h.frm.trans hf (fun y hy => by rw [List.mem_singleton] at hy; rw [hy]; exact .inl List.mem_cons_self), h.row.frm hf (by have := h.xb; rw [List.mem_singleton]; omega), h.tS, h.xb, h.low⟩
theorem AS.nil (h : AS w0 w w' fp0 fp S d r N m1 m2 B tb M x) (hf : Frm [] w' w'') : AS w0 w w'' fp0 fp S d r N m1 m2 B tb M x :=
  ⟨h.bo.nil hf, h.sub, h.tape.nil hf, h.frm.trans hf (by simp), h.row.frm hf (by simp), h.tS, h.xb, h.low⟩
theorem AS.bst (h : AS w0 w w' fp0 fp S d r N m1 m2 B tb M x) (hb : BSt w0 w' w'' fp (x :: S) d r N' m1' m2') : ∃ fp'', AS w0 w w'' fp0 fp'' S d r N' m1' m2' B tb M x ∧ (∀ y ∈ fp'', y ∈ fp ∨ w'.heap.size ≤ y) ∧ Frm (r :: fp) w' w'' := by
  obtain ⟨fp'', hbo, hs, hf⟩ := hb
  have hsz := h.frm.size
  have hr := h.bo.rn
  have hn := h.bo.new
  refine ⟨fp'', ⟨hbo, fun y hy => ?_, h.tape.frm hf (fun k hk => ?_) (fun hm => ?_), h.frm.trans hf (fun y hy => ?_), h.row.frm hf (fun hm => ?_), h.tS, h.xb, h.low⟩, hs, hf⟩
  · rcases hs y hy with h9 | h9
    · exact h.sub y h9
    · exact .inr (Nat.le_trans hsz h9)
  · rcases List.mem_cons.1 hk with rfl | hk
    · exact Nat.le_trans h.low hr.1
    · exact Nat.le_trans h.low (hn k hk).1
  · rcases List.mem_cons.1 hm with rfl | hm
    · exact hr.2 (List.mem_cons_of_mem _ h.tS)
    · exact (hn _ hm).2.2 (List.mem_cons_of_mem _ h.tS)
  · rcases List.mem_cons.1 hy with rfl | hy
    · exact .inl (by simp)
    · rcases h.sub y hy with h9 | h9
      · exact .inl (by simp [h9])
      · exact .inr h9
  · rcases List.mem_cons.1 hm with rfl | hm
    · exact hr.2 List.mem_cons_self
    · exact (hn _ hm).2.2 List.mem_cons_self
theorem AS.fin (h : AS w0 w w' fp0 fp S d r N' m1 m1 B tb M' x) (hN : N' ≤ N + 2) (hM : M' ≤ M + 10) (ha : ActM m m1) : ActEnd w0 w fp0 S d r N B tb M m w' :=
  ⟨fp, m1, ha, (h.bo.less (fun _ hy => List.mem_cons_of_mem _ hy)).mono hN, h.sub, h.tape.mono hM, h.frm⟩
theorem AS.start (h : BoX w0 w fp S d r N m m) (hT : TapeOk B w tb M) (htS : tb ∈ S) (hB : B ≤ w0.heap.size) : AS w0 w (w.alloc (.cells #[.pointer (some ⟨d, 0, none⟩), .pointer (some ⟨r, 0, none⟩)] 47)) fp fp S d r N m m B tb M w.heap.size := by
  have f0 : Frm [] w (w.alloc (.cells #[.pointer (some ⟨d, 0, none⟩), .pointer (some ⟨r, 0, none⟩)] 47)) := (Frm.refl [] w).alloc _
  refine ⟨h.more (T := [w.heap.size]) f0 (by simp) (fun t ht => ?_), fun y hy => .inl hy, hT.nil f0, f0.mono (by simp), RowAt.made _ _ _ _ rfl, htS, ⟨Nat.le_refl _, h.low tb htS⟩, hB⟩
  rw [List.mem_singleton] at ht
  rw [ht]
  simp
end
/-- Bytes that lie beside both disks, in block g. -/
def Beside (w : World) (fp S : List Nat) (r x g : Nat) : Prop := g < w.heap.size ∧ g ∉ fp ∧ g ≠ r ∧ g ∉ S ∧ g ≠ x
theorem Beside.F {w : World} {fp S : List Nat} {r x g : Nat} (h : Beside w fp S r x g) : g ∉ fp ++ r :: x :: S := by
  obtain ⟨_, h1, h2, h3, h4⟩ := h
  simp [h1, h2, h3, h4]
theorem Beside.bst {w w' : World} {fp fp' S : List Nat} {r x g : Nat} (h : Beside w fp S r x g) (hs : ∀ y ∈ fp', y ∈ fp ∨ w.heap.size ≤ y) (hf : Frm (r :: fp) w w') : Beside w' fp' S r x g := by
  obtain ⟨h0, h1, h2, h3, h4⟩ := h
  refine ⟨Nat.lt_of_lt_of_le h0 hf.size, fun hm => ?_, h2, h3, h4⟩
  rcases hs g hm with h9 | h9
  · exact h1 h9
  · omega
theorem AS.beside {w0 w w' : World} {fp0 fp S : List Nat} {d r N : Nat} {m1 m2 : DM} {B tb M x g : Nat} (h : AS w0 w w' fp0 fp S d r N m1 m2 B tb M x) (hg : w'.heap.size ≤ g) {w'' : World} (hl : g < w''.heap.size) : Beside w'' fp S r x g := by
  have h1 := h.bo.rlt
  refine ⟨hl, fun hm => ?_, by omega, fun hm => ?_, fun e => ?_⟩
  · have := h.bo.flt g hm; omega
  · have := h.bo.low g (List.mem_cons_of_mem _ hm); omega
  · have := h.row.lt; omega
set_option linter.unusedSimpArgs false in
set_option maxRecDepth 100000 in
set_option maxHeartbeats 8000000 in
theorem act_any {w0 w : World} {fp S : List Nat} {d r N B tb M : Nat} {m : DM}
    (h : BoX w0 w fp S d r N m m) (hN : N ≤ 890) (hT : TapeOk B w tb M) (hB : B ≤ tb) (hM : M ≤ 900000) (htS : tb ∈ S) (hB0 : B ≤ w0.heap.size) :
    Calls Try.prog 24 #[.agg #[.pointer (some ⟨d, 0, none⟩), .pointer (some ⟨r, 0, none⟩)], .pointer (some ⟨tb, 0, none⟩)] w fun e w' => e = .returned (.bool true) ∧ ActEnd w0 w fp S d r N B tb M m w' := by
  have HA0 := Lib.hid (AS.start h hT htS hB0)
  have HB := Lib.hid hB
  have HM := Lib.hid hM
  have HN := Lib.hid hN
  clear h hT hB hM htS hB0 hN
  go_enter Try.func24, Try.ntmps24
  go_wp2_with fail
  generalize w.alloc (.cells #[.pointer (some ⟨d, 0, none⟩), .pointer (some ⟨r, 0, none⟩)] 47) = wa at *
  obtain ⟨x, hx⟩ : ∃ x, x = w.heap.size := ⟨_, rfl⟩
  rw [← hx] at HA0 ⊢
  clear hx
  refine (next_any B tb M 12 wa HA0.out.tape HB.out (by have := HM.out; omega) (by decide)).mono ?_
  rintro e1 w1 ⟨⟨v, rfl, hv, -⟩, hT1, hf1⟩
  have hv12 := hv (by decide)
  obtain ⟨j, rfl⟩ : ∃ j : Nat, v = (j : Int) := ⟨v.toNat, by omega⟩
  have hj : j < 12 := by omega
  have HA1 := Lib.hid (HA0.out.next hf1 hT1)
  clear hv hv12 hT1 hf1 HA0
  have hcs : (j = 0 ∨ j = 1 ∨ j = 2) ∨ (j = 3 ∨ j = 4) ∨ j = 5 ∨ j = 6 ∨ j = 7 ∨ j = 8 ∨ (j = 9 ∨ j = 10 ∨ j = 11) := by omega
  clear hj
  rcases hcs with hcs | hcs | hcs | hcs | hcs | hcs | hcs
  · rcases hcs with rfl | rfl | rfl
    all_goals
      go_wp2_with fail
      refine (name_any HA1.out.tape HB.out (by have := HM.out; omega)).mono ?_
      rintro e2 w2 ⟨⟨s2, hs2, rfl⟩, hT2, hf2⟩
      have HA2 := Lib.hid (HA1.out.next hf2 hT2)
      have HS2 := Lib.hid hs2
      have HL2 := Lib.hid (names7_len s2 hs2)
      clear hT2 hf2 hs2 HA1
      go_wp2_with fail
      refine (data_any HA2.out.tape HB.out (by have := HM.out; omega)).mono ?_
      rintro e3 w3 ⟨⟨b, px, cx, rfl, hb, hb1, hb9⟩, hT3, hf3, hs3⟩
      obtain ⟨g, hg⟩ : ∃ g, g = w2.heap.size := ⟨_, rfl⟩
      rw [← hg] at hb hs3 ⊢
      have HG := Lib.hid (HA2.out.beside (by rw [hg]; exact Nat.le_refl _) hs3)
      have HA3 := Lib.hid (HA2.out.next hf3 hT3)
      have HBV := Lib.hid hb
      have HB9 := Lib.hid hb9
      clear hb hb1 hb9 hT3 hf3 hs3 hg HA2
      go_wp2_with fail
      have p0 := HA3.out.row.cell (i := 0) rfl
      have p1 := HA3.out.row.cell (i := 1) rfl
      go_region_held3 (fun w' => w'.cell? ⟨x, 0, none⟩ = some (.pointer (some ⟨d, 0, none⟩)) ∧ w'.cell? ⟨x, 1, none⟩ = some (.pointer (some ⟨r, 0, none⟩))) (first | exact ⟨p0, p1⟩ | exact ⟨q0, q1⟩ | exact ⟨r0, r1⟩) (first | (go_at_call 40; refine (bo_append2 ha8.bo (by have := HN.out; omega) HL2.out (by have := HB9.out; omega) ((HBV.out.frm hf8' (fun k hk hm => by simp [Value.ownBlock] at hk; rw [← hk] at hm; rcases List.mem_cons.1 hm with h9 | h9; exact HG.out.2.2.1 h9; exact HG.out.2.1 h9)).row (fun k hk => by simp [Value.ownBlock] at hk; rw [← hk]; exact (HG.out.bst (fun y hy => hs8 y hy) hf8').F))).mono ?_; rintro e9 w9 ⟨rfl, hb9⟩; obtain ⟨fp9, ha9, hs9, hf9⟩ := ha8.bst hb9; have r0 := ha9.row.cell (i := 0) rfl; have r1 := ha9.row.cell (i := 1) rfl) | (go_at_call 10; refine (bo_append1 (HA3.out.nil (by first | exact Frm.refl [] w3 | exact (Frm.refl [] w3).drew | exact (Frm.refl [] w3).drewN _)).bo (by have := HN.out; omega) HL2.out (HBV.out.frm (by first | exact Frm.refl [] w3 | exact (Frm.refl [] w3).drew | exact (Frm.refl [] w3).drewN _) (by simp)) (fun k hk => by simp [Value.ownBlock] at hk; rw [← hk]; exact HG.out.2.1)).mono ?_; rintro e8 w8 ⟨rfl, hb8⟩; obtain ⟨fp8, ha8, hs8, hf8⟩ := (HA3.out.nil (by first | exact Frm.refl [] w3 | exact (Frm.refl [] w3).drew | exact (Frm.refl [] w3).drewN _)).bst hb8; have hf8' : Frm (r :: fp) w3 w8 := Frm.trans (by first | exact Frm.refl (r :: fp) w3 | exact (Frm.refl (r :: fp) w3).drew | exact (Frm.refl (r :: fp) w3).drewN _) hf8 (fun y hy => .inl hy); have q0 := ha8.row.cell (i := 0) rfl; have q1 := ha8.row.cell (i := 1) rfl))
      go_wp2_with fail
      go_ret
      exact ⟨rfl, ha9.fin (by omega) (by omega) (.inr (.inl ⟨s2, HS2.out, b, HB9.out, rfl⟩))⟩
  · rcases hcs with rfl | rfl
    all_goals
      go_wp2_with fail
      refine (name_any HA1.out.tape HB.out (by have := HM.out; omega)).mono ?_
      rintro e2 w2 ⟨⟨s2, hs2, rfl⟩, hT2, hf2⟩
      have HA2 := Lib.hid (HA1.out.next hf2 hT2)
      have HS2 := Lib.hid hs2
      have HL2 := Lib.hid (names7_len s2 hs2)
      clear hT2 hf2 hs2 HA1
      go_wp2_with fail
      have p0 := HA2.out.row.cell (i := 0) rfl
      have p1 := HA2.out.row.cell (i := 1) rfl
      go_region_held3 (fun w' => w'.cell? ⟨x, 0, none⟩ = some (.pointer (some ⟨d, 0, none⟩)) ∧ w'.cell? ⟨x, 1, none⟩ = some (.pointer (some ⟨r, 0, none⟩))) (first | exact ⟨p0, p1⟩ | exact ⟨q0, q1⟩ | exact ⟨r0, r1⟩) (first | (go_at_call 41; refine (bo_sync2 ha8.bo (by have := HN.out; omega) HL2.out).mono ?_; rintro e9 w9 ⟨rfl, hb9⟩; obtain ⟨fp9, ha9, hs9, hf9⟩ := ha8.bst hb9; have r0 := ha9.row.cell (i := 0) rfl; have r1 := ha9.row.cell (i := 1) rfl) | (go_at_call 16; refine (bo_sync1 (HA2.out.nil (by first | exact Frm.refl [] w2 | exact (Frm.refl [] w2).drew | exact (Frm.refl [] w2).drewN _)).bo HL2.out).mono ?_; rintro e8 w8 ⟨rfl, hb8⟩; obtain ⟨fp8, ha8, hs8, hf8⟩ := (HA2.out.nil (by first | exact Frm.refl [] w2 | exact (Frm.refl [] w2).drew | exact (Frm.refl [] w2).drewN _)).bst hb8; have hf8' : Frm (r :: fp) w2 w8 := Frm.trans (by first | exact Frm.refl (r :: fp) w2 | exact (Frm.refl (r :: fp) w2).drew | exact (Frm.refl (r :: fp) w2).drewN _) hf8 (fun y hy => .inl hy); have q0 := ha8.row.cell (i := 0) rfl; have q1 := ha8.row.cell (i := 1) rfl))
      go_wp2_with fail
      go_ret
      exact ⟨rfl, ha9.fin (by omega) (by omega) (.inr (.inr (.inl ⟨s2, HS2.out, rfl⟩)))⟩
  · subst hcs
    go_wp2_with fail
    refine (name_any HA1.out.tape HB.out (by have := HM.out; omega)).mono ?_
    rintro e2 w2 ⟨⟨s2, hs2, rfl⟩, hT2, hf2⟩
    have HA2 := Lib.hid (HA1.out.next hf2 hT2)
    have HS2 := Lib.hid hs2
    have HL2 := Lib.hid (names7_len s2 hs2)
    clear hT2 hf2 hs2 HA1
    go_wp2_with fail
    refine (name_any HA2.out.tape HB.out (by have := HM.out; omega)).mono ?_
    rintro e3 w3 ⟨⟨s3, hs3, rfl⟩, hT3, hf3⟩
    have HA3 := Lib.hid (HA2.out.next hf3 hT3)
    have HS3 := Lib.hid hs3
    have HL3 := Lib.hid (names7_len s3 hs3)
    clear hT3 hf3 hs3 HA2
    go_wp2_with fail
    have p0 := HA3.out.row.cell (i := 0) rfl
    have p1 := HA3.out.row.cell (i := 1) rfl
    go_region_held3 (fun w' => w'.cell? ⟨x, 0, none⟩ = some (.pointer (some ⟨d, 0, none⟩)) ∧ w'.cell? ⟨x, 1, none⟩ = some (.pointer (some ⟨r, 0, none⟩))) (first | exact ⟨p0, p1⟩ | exact ⟨q0, q1⟩ | exact ⟨r0, r1⟩) (first | (go_at_call 42; refine (bo_rename2 ha8.bo (by have := HN.out; omega) HL2.out HL3.out).mono ?_; rintro e9 w9 ⟨rfl, hb9⟩; obtain ⟨fp9, ha9, hs9, hf9⟩ := ha8.bst hb9; have r0 := ha9.row.cell (i := 0) rfl; have r1 := ha9.row.cell (i := 1) rfl) | (go_at_call 19; refine (bo_rename1 (HA3.out.nil (by first | exact Frm.refl [] w3 | exact (Frm.refl [] w3).drew | exact (Frm.refl [] w3).drewN _)).bo (by have := HN.out; omega) HL2.out HL3.out).mono ?_; rintro e8 w8 ⟨rfl, hb8⟩; obtain ⟨fp8, ha8, hs8, hf8⟩ := (HA3.out.nil (by first | exact Frm.refl [] w3 | exact (Frm.refl [] w3).drew | exact (Frm.refl [] w3).drewN _)).bst hb8; have hf8' : Frm (r :: fp) w3 w8 := Frm.trans (by first | exact Frm.refl (r :: fp) w3 | exact (Frm.refl (r :: fp) w3).drew | exact (Frm.refl (r :: fp) w3).drewN _) hf8 (fun y hy => .inl hy); have q0 := ha8.row.cell (i := 0) rfl; have q1 := ha8.row.cell (i := 1) rfl))
    go_wp2_with fail
    go_ret
    exact ⟨rfl, ha9.fin (by omega) (by omega) (.inr (.inr (.inr (.inl ⟨s2, HS2.out, s3, HS3.out, rfl⟩))))⟩
  · subst hcs
    go_wp2_with fail
    refine (name_any HA1.out.tape HB.out (by have := HM.out; omega)).mono ?_
    rintro e2 w2 ⟨⟨s2, hs2, rfl⟩, hT2, hf2⟩
    have HA2 := Lib.hid (HA1.out.next hf2 hT2)
    have HS2 := Lib.hid hs2
    have HL2 := Lib.hid (names7_len s2 hs2)
    clear hT2 hf2 hs2 HA1
    go_wp2_with fail
    have p0 := HA2.out.row.cell (i := 0) rfl
    have p1 := HA2.out.row.cell (i := 1) rfl
    go_region_held3 (fun w' => w'.cell? ⟨x, 0, none⟩ = some (.pointer (some ⟨d, 0, none⟩)) ∧ w'.cell? ⟨x, 1, none⟩ = some (.pointer (some ⟨r, 0, none⟩))) (first | exact ⟨p0, p1⟩ | exact ⟨q0, q1⟩ | exact ⟨r0, r1⟩) (first | (go_at_call 43; refine (bo_delete2 ha8.bo (by have := HN.out; omega) HL2.out).mono ?_; rintro e9 w9 ⟨rfl, hb9⟩; obtain ⟨fp9, ha9, hs9, hf9⟩ := ha8.bst hb9; have r0 := ha9.row.cell (i := 0) rfl; have r1 := ha9.row.cell (i := 1) rfl) | (go_at_call 11; refine (bo_delete1 (HA2.out.nil (by first | exact Frm.refl [] w2 | exact (Frm.refl [] w2).drew | exact (Frm.refl [] w2).drewN _)).bo (by have := HN.out; omega) HL2.out).mono ?_; rintro e8 w8 ⟨rfl, hb8⟩; obtain ⟨fp8, ha8, hs8, hf8⟩ := (HA2.out.nil (by first | exact Frm.refl [] w2 | exact (Frm.refl [] w2).drew | exact (Frm.refl [] w2).drewN _)).bst hb8; have hf8' : Frm (r :: fp) w2 w8 := Frm.trans (by first | exact Frm.refl (r :: fp) w2 | exact (Frm.refl (r :: fp) w2).drew | exact (Frm.refl (r :: fp) w2).drewN _) hf8 (fun y hy => .inl hy); have q0 := ha8.row.cell (i := 0) rfl; have q1 := ha8.row.cell (i := 1) rfl))
    go_wp2_with fail
    go_ret
    exact ⟨rfl, ha9.fin (by omega) (by omega) (.inr (.inr (.inr (.inr (.inl ⟨s2, HS2.out, rfl⟩)))))⟩
  · subst hcs
    go_wp2_with fail
    refine (name_any HA1.out.tape HB.out (by have := HM.out; omega)).mono ?_
    rintro e2 w2 ⟨⟨s2, hs2, rfl⟩, hT2, hf2⟩
    have HA2 := Lib.hid (HA1.out.next hf2 hT2)
    have HS2 := Lib.hid hs2
    have HL2 := Lib.hid (names7_len s2 hs2)
    clear hT2 hf2 hs2 HA1
    have p0 := HA2.out.row.cell (i := 0) rfl
    go_wp2_with fail
    refine (bo_read1 HA2.out.bo HL2.out).mono ?_
    rintro e3 w3 ⟨⟨a3, c3, rfl, hown3⟩, hf3⟩
    have HA3 := Lib.hid (HA2.out.nil hf3)
    have HV3 := Lib.hid (bytesV_of_owns hown3)
    have p1 := HA3.out.row.cell (i := 1) rfl
    clear hf3 hown3 p0 HA2
    go_wp2_with fail
    refine (bo_read2 HA3.out.bo HL2.out).mono ?_
    rintro e4 w4 ⟨⟨a4, c4, rfl, hown4⟩, hf4⟩
    have HA4 := Lib.hid (HA3.out.nil hf4)
    have cv1 := conv_bytes (HV3.out.frm hf4 (by simp))
    have cv2 := conv_bytes (bytesV_of_owns hown4)
    clear hf4 hown4 p1 HA3 HV3
    go_wp2_with fail
    go_ret
    exact ⟨rfl, HA4.out.fin (by omega) (by omega) (.inl rfl)⟩
  · subst hcs
    go_wp2_with fail
    refine (next_any B tb (M + 1) 6 w1 HA1.out.tape HB.out (by have := HM.out; omega) (by decide)).mono ?_
    rintro e2 w2 ⟨⟨v2, rfl, hv2, -⟩, hT2, hf2⟩
    have hv6 := hv2 (by decide)
    have iw : IntKind.i64.wrap (v2 - 1) = v2 - 1 := IntWalk.i64_in _ (by omega)
    have HI : Hid (v2 - 1 ≤ 9223372036854775807) := Lib.hid (by omega)
    have HA2 := Lib.hid (HA1.out.next hf2 hT2)
    have p0 := HA2.out.row.cell (i := 0) rfl
    clear hv2 hv6 hT2 hf2 HA1
    go_wp2_with fail
    refine (bo_fail1 HA2.out.bo (v2 - 1) HI.out).mono ?_
    rintro e3 w3 ⟨rfl, hb3⟩
    obtain ⟨fp3, ha3, hs3, hf3⟩ := HA2.out.bst hb3
    have HA3 := Lib.hid ha3
    have p1 := ha3.row.cell (i := 1) rfl
    clear hb3 ha3 hs3 hf3 p0 HA2
    go_wp2_with fail
    refine (bo_fail2 HA3.out.bo (v2 - 1) HI.out).mono ?_
    rintro e4 w4 ⟨rfl, hb4⟩
    obtain ⟨fp4, ha4, hs4, hf4⟩ := HA3.out.bst hb4
    clear hb4 hs4 hf4 p1 HA3
    go_wp2_with fail
    go_ret
    exact ⟨rfl, ha4.fin (by omega) (by omega) (.inr (.inr (.inr (.inr (.inr (.inl ⟨_, rfl⟩))))))⟩
  · rcases hcs with rfl | rfl | rfl
    all_goals
      go_wp2_with fail
      refine (next_any B tb (M + 1) 3 w1 HA1.out.tape HB.out (by have := HM.out; omega) (by decide)).mono ?_
      rintro e2 w2 ⟨⟨v2, rfl, hv2, -⟩, hT2, hf2⟩
      have HA2 := Lib.hid (HA1.out.next hf2 hT2)
      clear hv2 hT2 hf2 HA1
      have p1 := HA2.out.row.cell (i := 1) rfl
      obtain ⟨fv, dv, sv, ov, l, hrd⟩ := HA2.out.bo.rdv
      have o6 := hrd.hd.cell (i := 6) rfl
      clear hrd
      have hway : (0 < v2 ∧ m.off = false) ∨ (0 < v2 ∧ m.off = true) ∨ ¬ 0 < v2 := by
        cases hq : m.off
        · by_cases h9 : 0 < v2
          · exact .inl ⟨h9, rfl⟩
          · exact .inr (.inr h9)
        · by_cases h9 : 0 < v2
          · exact .inr (.inl ⟨h9, rfl⟩)
          · exact .inr (.inr h9)
      rcases hway with ⟨h0, hoff⟩ | hway
      · rw [hoff] at o6
        clear hoff
        go_wp2_with fail
        go_ret
        exact ⟨rfl, HA2.out.fin (by omega) (by omega) (.inl rfl)⟩
      · rcases hway with ⟨h0, hoff⟩ | h0
        · rw [hoff] at o6
          clear hoff
          go_wp2_with fail
          refine (next_any B tb (M + 2) 6 _ HA2.out.tape HB.out (by have := HM.out; omega) (by decide)).mono ?_
          rintro e3 w3 ⟨⟨v3, rfl, hv3, -⟩, hT3, hf3⟩
          have hv3x := hv3 (by decide)
          have HA3 := Lib.hid (HA2.out.next hf3 hT3)
          clear hv3 hT3 hf3 HA2
          have iw3 : IntKind.i64.wrap (v3 - 1) = v3 - 1 := IntWalk.i64_in _ (by omega)
          clear hv3x
          go_wp2_with fail
          refine (next_any B tb (M + 3) 9 _ HA3.out.tape HB.out (by have := HM.out; omega) (by decide)).mono ?_
          rintro e4 w4 ⟨⟨v4, rfl, hv4, -⟩, hT4, hf4⟩
          have hv4x := hv4 (by decide)
          have HA4 := Lib.hid (HA3.out.next hf4 hT4)
          clear hv4 hT4 hf4 HA3
          clear hv4x
          go_wp2_with fail
          refine (next_any B tb (M + 4) 9 _ HA4.out.tape HB.out (by have := HM.out; omega) (by decide)).mono ?_
          rintro e5 w5 ⟨⟨v5, rfl, hv5, -⟩, hT5, hf5⟩
          have hv5x := hv5 (by decide)
          have HA5 := Lib.hid (HA4.out.next hf5 hT5)
          clear hv5 hT5 hf5 HA4
          have iw5 : IntKind.i64.wrap (v5 - 1) = v5 - 1 := IntWalk.i64_in _ (by omega)
          clear hv5x
          go_wp2_with fail
          refine (next_any B tb (M + 5) 5 _ HA5.out.tape HB.out (by have := HM.out; omega) (by decide)).mono ?_
          rintro e6 w6 ⟨⟨v6, rfl, hv6, -⟩, hT6, hf6⟩
          have hv6x := hv6 (by decide)
          have HA6 := Lib.hid (HA5.out.next hf6 hT6)
          clear hv6 hT6 hf6 HA5
          clear hv6x
          go_wp2_with fail
          have f7 : Frm [] w6 (w6.alloc (.cells #[.int .i64 (v3 - 1), .int .i64 v4, .int .i64 (v5 - 1), .int .i64 v6] 3)) := (Frm.refl [] w6).alloc _
          have r7 : RowAt (w6.alloc (.cells #[.int .i64 (v3 - 1), .int .i64 v4, .int .i64 (v5 - 1), .int .i64 v6] 3)) w6.heap.size 3 (ints [v3 - 1, v4, v5 - 1, v6]) := RowAt.made _ _ _ _ rfl
          have HA7 := Lib.hid (HA6.out.nil f7)
          generalize w6.alloc (.cells #[.int .i64 (v3 - 1), .int .i64 v4, .int .i64 (v5 - 1), .int .i64 v6] 3) = w7 at *
          obtain ⟨g, hg⟩ : ∃ g, g = w6.heap.size := ⟨_, rfl⟩
          rw [← hg] at r7 ⊢
          have hgt : g ≠ tb := by have := HA6.out.xb; have := HA6.out.frm.size; omega
          refine (next_any B tb (M + 6) 5 w7 HA7.out.tape HB.out (by have := HM.out; omega) (by decide)).mono ?_
          rintro e8 w8 ⟨⟨v8, rfl, hv8, -⟩, hT8, hf8⟩
          have hv8x := hv8 (by decide)
          obtain ⟨q, rfl⟩ : ∃ q : Nat, v8 = (q : Int) := ⟨v8.toNat, by omega⟩
          have HA8 := Lib.hid (HA7.out.next hf8 hT8)
          have hr8 := r7.frm hf8 (by simpa using hgt)
          have HG := Lib.hid (HA6.out.beside (by rw [hg]; exact Nat.le_refl _) hr8.lt)
          have i8 : (0 : Int) ≤ (q : Int) := by omega
          have i9 : (q : Int) ≤ 4 := by omega
          have hq4 : q ≤ 4 := by omega
          obtain ⟨keep, hkeep⟩ : ∃ keep, keep = [v3 - 1, v4, v5 - 1, v6].take q := ⟨_, rfl⟩
          have hkl : keep.length = q := by rw [hkeep, List.length_take]; exact Nat.min_eq_left hq4
          have hkc : ∀ (i : Nat) (y : Int), keep[i]? = some y → w8.cell? ⟨g, i, none⟩ = some (.int .i64 y) := fun i y hy => by
            rw [hkeep, List.getElem?_take] at hy
            split at hy
            · exact hr8.cell (by rw [ints, List.getElem?_map, hy]; rfl)
            · cases hy
          have HKC := Lib.hid hkc
          have HKL := Lib.hid hkl
          have HQ4 := Lib.hid hq4
          have p0 := HA8.out.row.cell (i := 0) rfl
          clear f7 r7 hg hgt hv8 hv8x hT8 hf8 hr8 hkeep hkl hkc hq4 HA6 HA7
          go_wp2_with fail
          refine (bo_crash1 (keep := keep) HA8.out.bo (by have := HN.out; omega) ⟨HKL.out, HQ4.out, by decide, fun i y hy => ⟨g, 0, rfl, HG.out.1, HG.out.2.1, by rw [Nat.zero_add]; exact HKC.out i y hy⟩⟩).mono ?_
          rintro e9 w9 ⟨rfl, hb9⟩
          obtain ⟨fp9, ha9, hs9, hf9⟩ := HA8.out.bst hb9
          have HA9 := Lib.hid ha9
          have HG9 := Lib.hid (HG.out.bst hs9 hf9)
          have hgf : g ∉ r :: fp := by
            obtain ⟨_, h1, h2, _, _⟩ := HG.out
            simp [h1, h2]
          have HKC9 : Hid (∀ (i : Nat) (y : Int), keep[i]? = some y → w9.cell? ⟨g, i, none⟩ = some (.int .i64 y)) := Lib.hid (fun i y hy => hf9.cell (HKC.out i y hy) hgf)
          have p1 := ha9.row.cell (i := 1) rfl
          clear hb9 ha9 hs9 hf9 hgf p0 HA8
          go_wp2_with fail
          refine (bo_crash2 (keep := keep) HA9.out.bo (by have := HN.out; omega) ⟨by rw [ints, List.length_map, HKL.out, Nat.mul_one], _, _, rfl, HQ4.out, by decide, (fun h => by cases h), fun i u hu => by
            rw [ints, List.getElem?_map] at hu
            cases hy : keep[i]? with
            | none => rw [hy] at hu; cases hu
            | some y =>
              rw [hy] at hu
              cases hu
              exact ⟨g, 0, rfl, HG9.out.F, HG9.out.1, by rw [Nat.zero_add]; exact HKC9.out i y hy⟩⟩).mono ?_
          rintro e10 w10 ⟨rfl, hb10⟩
          obtain ⟨fp10, ha10, hs10, hf10⟩ := HA9.out.bst hb10
          clear hb10 hs10 hf10 p1 HA9
          go_wp2_with fail
          go_ret
          exact ⟨rfl, ha10.fin (by omega) (by omega) (.inr (.inr (.inr (.inr (.inr (.inr ⟨_, rfl⟩))))))⟩
        · clear o6
          go_wp2_with fail
          refine (next_any B tb (M + 2) 6 _ HA2.out.tape HB.out (by have := HM.out; omega) (by decide)).mono ?_
          rintro e3 w3 ⟨⟨v3, rfl, hv3, -⟩, hT3, hf3⟩
          have hv3x := hv3 (by decide)
          have HA3 := Lib.hid (HA2.out.next hf3 hT3)
          clear hv3 hT3 hf3 HA2
          have iw3 : IntKind.i64.wrap (v3 - 1) = v3 - 1 := IntWalk.i64_in _ (by omega)
          clear hv3x
          go_wp2_with fail
          refine (next_any B tb (M + 3) 9 _ HA3.out.tape HB.out (by have := HM.out; omega) (by decide)).mono ?_
          rintro e4 w4 ⟨⟨v4, rfl, hv4, -⟩, hT4, hf4⟩
          have hv4x := hv4 (by decide)
          have HA4 := Lib.hid (HA3.out.next hf4 hT4)
          clear hv4 hT4 hf4 HA3
          clear hv4x
          go_wp2_with fail
          refine (next_any B tb (M + 4) 9 _ HA4.out.tape HB.out (by have := HM.out; omega) (by decide)).mono ?_
          rintro e5 w5 ⟨⟨v5, rfl, hv5, -⟩, hT5, hf5⟩
          have hv5x := hv5 (by decide)
          have HA5 := Lib.hid (HA4.out.next hf5 hT5)
          clear hv5 hT5 hf5 HA4
          have iw5 : IntKind.i64.wrap (v5 - 1) = v5 - 1 := IntWalk.i64_in _ (by omega)
          clear hv5x
          go_wp2_with fail
          refine (next_any B tb (M + 5) 5 _ HA5.out.tape HB.out (by have := HM.out; omega) (by decide)).mono ?_
          rintro e6 w6 ⟨⟨v6, rfl, hv6, -⟩, hT6, hf6⟩
          have hv6x := hv6 (by decide)
          have HA6 := Lib.hid (HA5.out.next hf6 hT6)
          clear hv6 hT6 hf6 HA5
          clear hv6x
          go_wp2_with fail
          have f7 : Frm [] w6 (w6.alloc (.cells #[.int .i64 (v3 - 1), .int .i64 v4, .int .i64 (v5 - 1), .int .i64 v6] 3)) := (Frm.refl [] w6).alloc _
          have r7 : RowAt (w6.alloc (.cells #[.int .i64 (v3 - 1), .int .i64 v4, .int .i64 (v5 - 1), .int .i64 v6] 3)) w6.heap.size 3 (ints [v3 - 1, v4, v5 - 1, v6]) := RowAt.made _ _ _ _ rfl
          have HA7 := Lib.hid (HA6.out.nil f7)
          generalize w6.alloc (.cells #[.int .i64 (v3 - 1), .int .i64 v4, .int .i64 (v5 - 1), .int .i64 v6] 3) = w7 at *
          obtain ⟨g, hg⟩ : ∃ g, g = w6.heap.size := ⟨_, rfl⟩
          rw [← hg] at r7 ⊢
          have hgt : g ≠ tb := by have := HA6.out.xb; have := HA6.out.frm.size; omega
          refine (next_any B tb (M + 6) 5 w7 HA7.out.tape HB.out (by have := HM.out; omega) (by decide)).mono ?_
          rintro e8 w8 ⟨⟨v8, rfl, hv8, -⟩, hT8, hf8⟩
          have hv8x := hv8 (by decide)
          obtain ⟨q, rfl⟩ : ∃ q : Nat, v8 = (q : Int) := ⟨v8.toNat, by omega⟩
          have HA8 := Lib.hid (HA7.out.next hf8 hT8)
          have hr8 := r7.frm hf8 (by simpa using hgt)
          have HG := Lib.hid (HA6.out.beside (by rw [hg]; exact Nat.le_refl _) hr8.lt)
          have i8 : (0 : Int) ≤ (q : Int) := by omega
          have i9 : (q : Int) ≤ 4 := by omega
          have hq4 : q ≤ 4 := by omega
          obtain ⟨keep, hkeep⟩ : ∃ keep, keep = [v3 - 1, v4, v5 - 1, v6].take q := ⟨_, rfl⟩
          have hkl : keep.length = q := by rw [hkeep, List.length_take]; exact Nat.min_eq_left hq4
          have hkc : ∀ (i : Nat) (y : Int), keep[i]? = some y → w8.cell? ⟨g, i, none⟩ = some (.int .i64 y) := fun i y hy => by
            rw [hkeep, List.getElem?_take] at hy
            split at hy
            · exact hr8.cell (by rw [ints, List.getElem?_map, hy]; rfl)
            · cases hy
          have HKC := Lib.hid hkc
          have HKL := Lib.hid hkl
          have HQ4 := Lib.hid hq4
          have p0 := HA8.out.row.cell (i := 0) rfl
          clear f7 r7 hg hgt hv8 hv8x hT8 hf8 hr8 hkeep hkl hkc hq4 HA6 HA7
          go_wp2_with fail
          refine (bo_crash1 (keep := keep) HA8.out.bo (by have := HN.out; omega) ⟨HKL.out, HQ4.out, by decide, fun i y hy => ⟨g, 0, rfl, HG.out.1, HG.out.2.1, by rw [Nat.zero_add]; exact HKC.out i y hy⟩⟩).mono ?_
          rintro e9 w9 ⟨rfl, hb9⟩
          obtain ⟨fp9, ha9, hs9, hf9⟩ := HA8.out.bst hb9
          have HA9 := Lib.hid ha9
          have HG9 := Lib.hid (HG.out.bst hs9 hf9)
          have hgf : g ∉ r :: fp := by
            obtain ⟨_, h1, h2, _, _⟩ := HG.out
            simp [h1, h2]
          have HKC9 : Hid (∀ (i : Nat) (y : Int), keep[i]? = some y → w9.cell? ⟨g, i, none⟩ = some (.int .i64 y)) := Lib.hid (fun i y hy => hf9.cell (HKC.out i y hy) hgf)
          have p1 := ha9.row.cell (i := 1) rfl
          clear hb9 ha9 hs9 hf9 hgf p0 HA8
          go_wp2_with fail
          refine (bo_crash2 (keep := keep) HA9.out.bo (by have := HN.out; omega) ⟨by rw [ints, List.length_map, HKL.out, Nat.mul_one], _, _, rfl, HQ4.out, by decide, (fun h => by cases h), fun i u hu => by
            rw [ints, List.getElem?_map] at hu
            cases hy : keep[i]? with
            | none => rw [hy] at hu; cases hu
            | some y =>
              rw [hy] at hu
              cases hu
              exact ⟨g, 0, rfl, HG9.out.F, HG9.out.1, by rw [Nat.zero_add]; exact HKC9.out i y hy⟩⟩).mono ?_
          rintro e10 w10 ⟨rfl, hb10⟩
          obtain ⟨fp10, ha10, hs10, hf10⟩ := HA9.out.bst hb10
          clear hb10 hs10 hf10 p1 HA9
          go_wp2_with fail
          go_ret
          exact ⟨rfl, ha10.fin (by omega) (by omega) (.inr (.inr (.inr (.inr (.inr (.inr ⟨_, rfl⟩))))))⟩

end Go.Proofs.Ytkebdgbjgbcneaa
