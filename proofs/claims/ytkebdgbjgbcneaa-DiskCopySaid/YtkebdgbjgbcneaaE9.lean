/- The reference's disk: what it is; append in a region that draws; contract of perform. -/
import Derived.Test.YtkebdgbjgbcneaaE8
namespace Go.Proofs.Ytkebdgbjgbcneaa
open Go.RowKit Go.Maps Go.Shelf

def fileC (l : List (Value × FM)) : List Value := l.flatMap fun p => [p.1, .int .i64 (p.2.safe : Int)]
def ropsC (l : List OpM) : List Value := l.flatMap ropC
/-- The reference's disk at d is m; F are the blocks that may turn. -/
structure RDv (w : World) (F : List Nat) (d : Nat) (m : DM) (fv dv sv ov : Value) (l : List (Value × FM)) : Prop where
  hd : RowAt w d 77 (rhdC m fv dv sv ov)
  fm : l.map (·.2) = m.files
  fr : RowV w F fv l.length 2 (fileC l)
  fd : ∀ p ∈ l, RowV w F p.1 p.2.data.length 1 (byt p.2.data)
  dir : RowV w F dv m.dir.length 2 (dirC m.dir)
  safe : RowV w F sv m.safe.length 2 (dirC m.safe)
  ops : RowV w F ov m.ops.length 4 (ropsC m.ops)
  me : d ∈ F
  low : ∀ k ∈ F, k < w.heap.size
def RD (w : World) (F : List Nat) (d : Nat) (m : DM) : Prop := ∃ fv dv sv ov l, RDv w F d m fv dv sv ov l

/-- append(s, y...) as one step of a region that draws. -/
theorem step_app_row {w : World} {ops : Array Oper} {o : Oper} {a : Act} {K : Act → World → Prop} {Q : Exit → Act → World → Prop} {E : Prop} (hgd : o.guard = none) (s x : Operand) (t e : TypeId) (z : Value) (size bytes : Nat)
    (ho : o.op = .call { callee := .builtin .append, args := #[s, x], argTypes := #[t, t] }) (ht : Try.prog.underlying t = some (.slice e))
    (hinfo : (Try.prog.info? e).map (fun i => (i.zero, i.size, i.bytes)) = some (some z, size, bytes)) (hzs : z.cells.size = size) (hsz : 0 < size) (hby : bytes ≤ 1000)
    (B n : Nat) (v : Value) (xs : List Value) (hs : a.eval s = v) (hown : w.ownsRow B e size v n xs) (u : Value) (m : Nat) (ys : List Value) (F : List Nat) (hx : a.eval x = u) (hy : RowV w F u m size ys) (h1 : ∀ u ∈ ys, u.oneCell' = true)
    (N : Nat) (hN : n + m = N) (hb : N ≤ 100000000) (hB : B ≤ w.heap.size)
    (h : ∀ a' cp w', w'.ownsRow B e size (.slice a' N cp) N (xs ++ ys) → Frm v.ownBlock.toList w w' → K (a.put o.dst (.slice a' N cp)) w') :
    if Region.wanted o (yielded ops a.tmps) = true then Oper.wp Try.prog o a w K Q else E := by
  have hw : Region.wanted o (yielded ops a.tmps) = true := by simp [Region.wanted, hgd]
  rw [if_pos hw]
  obtain ⟨i0, hi, hz0, hz1, hz2⟩ := info_parts hinfo
  obtain ⟨hl, ad, c, rfl, hmc, hcm, hnil, hcell⟩ := hy
  subst hN
  cases ad with
  | none =>
    have h0 := hnil rfl
    subst h0
    have hm : m = 0 := by omega
    subst hm
    have hys : ys = [] := List.eq_nil_of_length_eq_zero (by rw [hl, Nat.zero_mul])
    subst hys
    obtain ⟨a', cp, rfl, _⟩ := owns_shape (ownsB_mono hown (Nat.zero_le _))
    have hrun := run_append_owned_none (P := Try.prog) (w := w) B t o.type e i0 size ht hi _ n xs hown
    unfold Oper.wp
    simp [execOp, ho, resolve, invoke, builtin, hs, hx, hrun, Result.andThen]
    exact h a' cp w (by rw [List.append_nil]; exact hown) (Frm.refl _ _)
  | some p =>
    obtain ⟨v', w', hr, hown', hgr, _, hloc⟩ := run_append_own_at (P := Try.prog) w B t o.type e i0 z size bytes ht hi hz0 hz1 hz2 hzs hsz v n xs hown p m c ys hl (fun j u hj => by
      obtain ⟨b, o', e9, _, _, hc⟩ := hcell j u hj
      cases e9
      rw [Addr.add_lit]
      exact hc) h1 (by unfold maxLen; omega) (by calc (n + m) * bytes ≤ 100000000 * 1000 := Nat.mul_le_mul hb hby
      _ ≤ _ := by decide) hB
    unfold Oper.wp execOp
    simp only [ho, resolve, invoke, builtin, Sem.run_bind, Sem.run_pure, Result.andThen_ok, List.map_toArray, List.map_cons, List.map_nil, hs, hx, hr]
    obtain ⟨a', cp, rfl, _⟩ := owns_shape (ownsB_mono hown' (Nat.zero_le _))
    exact h a' cp w' hown' ((Frm.refl _ _).grown hgr (fun k hk => .inl (by simp [hk])))

section
variable {w w' : World} {F : List Nat} {d : Nat} {m : DM} {fv dv sv ov : Value} {l : List (Value × FM)}
theorem RDv.step {fp F' : List Nat} (h : RDv w F d m fv dv sv ov l) (hf : Frm fp w w') (hd : d ∉ fp) (hn : ∀ k ∈ fp, k ∈ F ∨ w.heap.size ≤ k) (hF : ∀ k ∈ F', k ∈ F ∨ w.heap.size ≤ k) (hme : d ∈ F') (hlow : ∀ k ∈ F', k < w'.heap.size) : RDv w' F' d m fv dv sv ov l :=
  ⟨h.hd.frm hf hd, h.fm, h.fr.step hf hn hF, fun p hp => (h.fd p hp).step hf hn hF, h.dir.step hf hn hF, h.safe.step hf hn hF, h.ops.step hf hn hF, hme, hlow⟩
theorem RDv.nil (h : RDv w F d m fv dv sv ov l) (hf : Frm [] w w') : RDv w' F d m fv dv sv ov l :=
  h.step hf (by simp) (by simp) (fun _ hk => .inl hk) h.me (fun k hk => Nat.lt_of_lt_of_le (h.low k hk) hf.size)
/-- The head turns, and what it leads to with it. -/
theorem RDv.turn {m' : DM} {fv' dv' sv' ov' : Value} {l' : List (Value × FM)} (h : RDv w F d m fv dv sv ov l) (hf : Frm [d] w w') (hr : RowAt w' d 77 (rhdC m' fv' dv' sv' ov')) (hfm : l'.map (·.2) = m'.files) (h1 : RowV w' F fv' l'.length 2 (fileC l')) (h2 : ∀ p ∈ l', RowV w' F p.1 p.2.data.length 1 (byt p.2.data)) (h3 : RowV w' F dv' m'.dir.length 2 (dirC m'.dir)) (h4 : RowV w' F sv' m'.safe.length 2 (dirC m'.safe)) (h5 : RowV w' F ov' m'.ops.length 4 (ropsC m'.ops)) : RDv w' F d m' fv' dv' sv' ov' l' :=
  ⟨hr, hfm, h1, h2, h3, h4, h5, h.me, fun k hk => Nat.lt_of_lt_of_le (h.low k hk) hf.size⟩
theorem RDv.mine (h : RDv w F d m fv dv sv ov l) : ∀ k ∈ [d], k ∈ F ∨ w.heap.size ≤ k := fun k hk => by
  rw [List.mem_singleton] at hk
  subst hk
  exact .inl h.me
end
theorem ropsC_app (l k : List OpM) : ropsC (l ++ k) = ropsC l ++ ropsC k := by simp [ropsC]
theorem oneCell_ropsC (l : List OpM) : ∀ u ∈ ropsC l, u.oneCell' = true := fun u hu => by
  simp only [ropsC, ropC, List.mem_flatMap, List.mem_cons, List.not_mem_nil, or_false] at hu
  obtain ⟨p, _, rfl | rfl | rfl | rfl⟩ := hu <;> rfl
theorem infoROp : (Try.prog.info? 92).map (fun i => (i.zero, i.size, i.bytes)) = some (some (.agg #[.int .i64 0, str [], str [], .int .i64 0]), 4, 48) := by kernel_rfl
theorem infoFile : (Try.prog.info? 89).map (fun i => (i.zero, i.size, i.bytes)) = some (some (.agg #[.slice none 0 0, .int .i64 0]), 2, 32) := by kernel_rfl

end Go.Proofs.Ytkebdgbjgbcneaa
