/- Copy of the reference's disk; two pairs of disks side by side. -/
import Derived.Test.YtkebdgbjgbcneaaEM
namespace Go.Proofs.Ytkebdgbjgbcneaa
open Go.RowKit Go.Maps Go.Shelf

/-- What the reference's Copy leaves. -/
def RCopyEnd (w : World) (F : List Nat) (d : Nat) (m : DM) (w' : World) (e : Ending) : Prop :=
  ∃ fv dv sv ov l, e = .returned (.pointer (some ⟨w.heap.size, 0, none⟩)) ∧ RDv w F d m fv dv sv ov l ∧ RowAt w' w.heap.size 77 (rhdC m fv dv sv ov) ∧ Frm [] w w'
set_option linter.unusedSimpArgs false in
theorem rcopy_any {w : World} {F : List Nat} {d : Nat} {m : DM} (h : RD w F d m) :
    Calls Try.prog 28 #[.pointer (some ⟨d, 0, none⟩)] w fun e w' => RCopyEnd w F d m w' e := by
  obtain ⟨fv, dv, sv, ov, l, h⟩ := h
  obtain ⟨f1, f2, rfl⟩ := h.fr.shape
  obtain ⟨d1, d2, rfl⟩ := h.dir.shape
  obtain ⟨s1, s2, rfl⟩ := h.safe.shape
  obtain ⟨o1, o2, rfl⟩ := h.ops.shape
  have c0 := h.hd.cell (i := 0) rfl
  have c1 := h.hd.cell (i := 1) rfl
  have c2 := h.hd.cell (i := 2) rfl
  have c3 := h.hd.cell (i := 3) rfl
  have c4 := h.hd.cell (i := 4) rfl
  have c5 := h.hd.cell (i := 5) rfl
  have c6 := h.hd.cell (i := 6) rfl
  have c7 := h.hd.cell (i := 7) rfl
  have HH := Lib.hid h
  clear h
  go_enter Try.func28, Try.ntmps28
  go_wp2_with fail
  go_ret
  exact ⟨_, _, _, _, _, rfl, HH.out, RowAt.made _ _ _ _ rfl, (Frm.refl [] w).alloc _⟩
theorem RDv.copy {w w' : World} {F F' : List Nat} {d r2 : Nat} {m : DM} {fv dv sv ov : Value} {l : List (Value × FM)} (h : RDv w F d m fv dv sv ov l) (hr : RowAt w' r2 77 (rhdC m fv dv sv ov)) (hf : Frm [] w w') (hF : ∀ k ∈ F', k ∈ F ∨ w.heap.size ≤ k) (hme : r2 ∈ F') (hlow : ∀ k ∈ F', k < w'.heap.size) : RD w' F' r2 m :=
  ⟨fv, dv, sv, ov, l, hr, h.fm, h.fr.step hf (by simp) hF, fun p hp => (h.fd p hp).step hf (by simp) hF, h.dir.step hf (by simp) hF, h.safe.step hf (by simp) hF, h.ops.step hf (by simp) hF, hme, hlow⟩
/-- The other pair of disks goes on while blocks of S alone turn; S grows by new blocks. -/
theorem BoX.follow {w0 w w' : World} {fp S S' fq : List Nat} {d r N : Nat} {m1 m2 : DM} (h : BoX w0 w fp S d r N m1 m2) (hf : Frm fq w w') (hq : ∀ x ∈ fq, x ∈ S) (hs : ∀ x ∈ S', x ∈ S ∨ w.heap.size ≤ x) (hl : ∀ x ∈ S', x < w'.heap.size) : BoX w0 w' fp S' d r N m1 m2 := by
  have h1 := h.more (T := S'.filter fun x => decide (w.heap.size ≤ x)) hf hq (fun t ht => by
    have := List.mem_filter.1 ht
    exact ⟨by simpa using this.2, hl t this.1⟩)
  refine h1.less (fun x hx => ?_)
  rcases hs x hx with h9 | h9
  · exact List.mem_append_right _ h9
  · exact List.mem_append_left _ (List.mem_filter.2 ⟨hx, by simpa using h9⟩)
/-- Two pairs of disks. -/
structure Two (w0 w : World) (fp1 fp2 : List Nat) (d r d2 r2 bb cc tb N M : Nat) (m m2 : DM) : Prop where
  b : BoX w0 w fp1 (fp2 ++ [r2, bb, cc, tb]) d r N m m
  c : BoX w0 w fp2 (fp1 ++ [r, bb, cc, tb]) d2 r2 N m2 m2
  tape : TapeOk tb w tb M
  rowb : RowAt w bb 47 [.pointer (some ⟨d, 0, none⟩), .pointer (some ⟨r, 0, none⟩)]
  rowc : RowAt w cc 47 [.pointer (some ⟨d2, 0, none⟩), .pointer (some ⟨r2, 0, none⟩)]
  frm : Frm [] w0 w
  tb0 : w0.heap.size ≤ tb ∧ bb ≠ tb ∧ cc ≠ tb
section
variable {w0 w w' : World} {fp1 fp2 : List Nat} {d r d2 r2 bb cc tb N N' M : Nat} {m m2 : DM}
theorem Two.nil (h : Two w0 w fp1 fp2 d r d2 r2 bb cc tb N M m m2) (hf : Frm [] w w') : Two w0 w' fp1 fp2 d r d2 r2 bb cc tb N M m m2 :=
  ⟨h.b.nil hf, h.c.nil hf, h.tape.nil hf, h.rowb.frm hf (by simp), h.rowc.frm hf (by simp), h.frm.trans hf (by simp), h.tb0⟩
theorem Two.mono {M' : Nat} (h : Two w0 w fp1 fp2 d r d2 r2 bb cc tb N M m m2) (hN : N ≤ N') (hM : M ≤ M') : Two w0 w fp1 fp2 d r d2 r2 bb cc tb N' M' m m2 :=
  ⟨h.b.mono hN, h.c.mono hN, h.tape.mono hM, h.rowb, h.rowc, h.frm, h.tb0⟩
theorem Two.swap (h : Two w0 w fp1 fp2 d r d2 r2 bb cc tb N M m m2) : Two w0 w fp2 fp1 d2 r2 d r cc bb tb N M m2 m := by
  have e : ∀ (l : List Nat) (q x : Nat), x ∈ l ++ [q, cc, bb, tb] → x ∈ l ++ [q, bb, cc, tb] := fun l q x hx => by
    simp at hx ⊢
    rcases hx with h9 | h9 | h9 | h9 | h9 <;> simp [h9]
  exact ⟨h.c.less (e _ _), h.b.less (e _ _), h.tape, h.rowc, h.rowb, h.frm, h.tb0.1, h.tb0.2.2, h.tb0.2.1⟩
theorem Two.act (h : Two w0 w fp1 fp2 d r d2 r2 bb cc tb N M m m2) (ha : ActEnd w0 w fp1 (fp2 ++ [r2, bb, cc, tb]) d r N tb tb M m w') : ∃ fp1' m', Two w0 w' fp1' fp2 d r d2 r2 bb cc tb (N + 2) (M + 10) m' m2 := by
  obtain ⟨fp1', m', _, hb, hs, ht, hf⟩ := ha
  have hx : ∀ y ∈ tb :: r :: fp1, y ≠ bb ∧ y ≠ cc ∧ w0.heap.size ≤ y := fun y hy => by
    rcases List.mem_cons.1 hy with rfl | hy
    · exact ⟨h.tb0.2.1.symm, h.tb0.2.2.symm, h.tb0.1⟩
    · rcases List.mem_cons.1 hy with rfl | hy
      · exact ⟨fun e => h.b.rn.2 (by rw [e]; simp), fun e => h.b.rn.2 (by rw [e]; simp), h.b.rn.1⟩
      · exact ⟨fun e => (h.b.new y hy).2.2 (by rw [e]; simp), fun e => (h.b.new y hy).2.2 (by rw [e]; simp), (h.b.new y hy).1⟩
  have hfl := hb.flt
  refine ⟨fp1', m', hb, (h.c.mono (Nat.le_add_right N 2)).follow hf (fun y hy => ?_) (fun y hy => ?_) (fun y hy => ?_), ht, h.rowb.frm hf (fun hm => (hx bb hm).1 rfl), h.rowc.frm hf (fun hm => (hx cc hm).2.1 rfl), h.frm.trans hf (fun y hy => .inr (hx y hy).2.2), h.tb0⟩
  · rcases List.mem_cons.1 hy with rfl | hy
    · simp
    · rcases List.mem_cons.1 hy with rfl | hy
      · simp
      · exact List.mem_append_left _ hy
  · rcases List.mem_append.1 hy with h9 | h9
    · rcases hs y h9 with h8 | h8
      · exact .inl (List.mem_append_left _ h8)
      · exact .inr h8
    · exact .inl (List.mem_append_right _ h9)
  · rcases List.mem_append.1 hy with h9 | h9
    · exact hfl y h9
    · exact Nat.lt_of_lt_of_le (h.c.low y (List.mem_append_right _ h9)) hf.size
end

end Go.Proofs.Ytkebdgbjgbcneaa
