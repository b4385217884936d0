/- Bytes appended; what a new file, a changed file and a changed head do to a disk. -/
import Derived.Test.YtkebdgbjgbcneaaDF
import Derived.Maps.AppendAt
namespace Go.Proofs.Ytkebdgbjgbcneaa
open Go.RowKit Go.Maps

theorem infoB : (Try.prog.info? 5).map (fun i => (i.zero, i.size, i.bytes)) = some (some (.int .u8 0), 1, 1) := by kernel_rfl
/-- A slice of bytes that can be read. -/
def BytesV (w : World) (v : Value) (xs : List UInt8) : Prop :=
  (v = .slice none 0 0 ∧ xs = []) ∨ ∃ b o cap, v = .slice (some ⟨b, o, none⟩) xs.length cap ∧ xs.length ≤ cap ∧ cap ≤ maxLen ∧ b < w.heap.size ∧
    ∀ (i : Nat) (x : UInt8), xs[i]? = some x → w.cell? ⟨b, o + i, none⟩ = some (.int .u8 (x.toNat : Int))
theorem BytesV.frm {fp : List Nat} {w w' : World} {v : Value} {xs : List UInt8} (h : BytesV w v xs) (hf : Frm fp w w') (hn : ∀ k, v.ownBlock = some k → k ∉ fp) : BytesV w' v xs := by
  rcases h with h | ⟨b, o, cap, rfl, h1, h2, h3, h4⟩
  · exact .inl h
  · have := hf.size
    exact .inr ⟨b, o, cap, rfl, h1, h2, by omega, fun i x hx => hf.cell (h4 i x hx) (hn b rfl)⟩
theorem BytesV.shape {w : World} {v : Value} {xs : List UInt8} (h : BytesV w v xs) : ∃ a cap, v = .slice a xs.length cap ∧ xs.length ≤ cap ∧ cap ≤ maxLen := by
  rcases h with ⟨rfl, rfl⟩ | ⟨b, o, cap, rfl, h1, h2, _⟩
  · exact ⟨none, 0, rfl, Nat.le_refl _, Nat.zero_le _⟩
  · exact ⟨_, cap, rfl, h1, h2⟩
theorem byt_get {xs : List UInt8} {i : Nat} {u : Value} (h : (byt xs)[i]? = some u) : ∃ x, xs[i]? = some x ∧ u = .int .u8 (x.toNat : Int) := by
  simp only [byt, List.getElem?_map, Option.map_eq_some_iff] at h
  obtain ⟨x, hx, rfl⟩ := h
  exact ⟨x, hx, rfl⟩
theorem byt_of {xs : List UInt8} {i : Nat} {x : UInt8} (h : xs[i]? = some x) : (byt xs)[i]? = some (.int .u8 (x.toNat : Int)) := by simp [byt, h]
theorem byt_app (xs ys : List UInt8) : byt (xs ++ ys) = byt xs ++ byt ys := by simp [byt]
theorem bytesV_of_owns {B : Nat} {w : World} {v : Value} {xs : List UInt8} (h : w.ownsRow B 5 1 v xs.length (byt xs)) : BytesV w v xs := by
  rcases h.2 with ⟨rfl, h0⟩ | ⟨g, cp, cur, rfl, _, hg, h1, h2, h3, h4⟩
  · exact .inl ⟨rfl, by simpa [byt] using h0⟩
  · refine .inr ⟨g, 0, cp, rfl, h1, h2, (Array.getElem?_eq_some_iff.1 hg).1, fun i x hx => ?_⟩
    rw [Nat.zero_add]
    exact RowAt.cell (xs := byt xs) (e := 5) ⟨cur, hg, by rw [h.1]; exact h4⟩ (byt_of hx)

/-- append(s, u...) at []byte. -/
theorem app_bytes {w : World} {ops : Array Oper} {rest : List Oper} {o : Oper} {a : Act} {Q : Exit → Act → World → Prop} (hgd : o.guard = none) (s x : Operand)
    (ho : o.op = .call { callee := .builtin .append, args := #[s, x], argTypes := #[27, 27] })
    (B n N : Nat) (v : Value) (xs : List UInt8) (hs : a.eval s = v) (hown : w.ownsRow B 5 1 v n (byt xs)) (u : Value) (ys : List UInt8) (hx : a.eval x = u) (hy : BytesV w u ys) (hN : n + ys.length = N) (hb : N ≤ 1000000000) (hB : B ≤ w.heap.size)
    (h : ∀ a' cp w', w'.ownsRow B 5 1 (.slice a' N cp) N (byt (xs ++ ys)) → Frm v.ownBlock.toList w w' → (∀ k, (Value.slice a' N cp).ownBlock = some k → v.ownBlock = some k ∨ k = w.heap.size) → wpList Try.prog ops Q rest (a.put o.dst (.slice a' N cp)) w') : wpList Try.prog ops Q (o :: rest) a w := by
  obtain ⟨i0, hi, hz0, hz1, hz2⟩ := info_parts infoB
  rcases hy with ⟨rfl, rfl⟩ | ⟨b, off, cap, rfl, h1, h2, h3, h4⟩
  · rw [List.length_nil, Nat.add_zero] at hN
    subst hN
    have hown0 : w.ownsRow 0 5 1 v n (byt xs) := ownsB_mono hown (Nat.zero_le _)
    obtain ⟨a', cp, rfl, _⟩ := owns_shape hown0
    refine wpList_append_own_none hgd s x 27 ho B 5 i0 1 Try.underlying27 hi _ n (byt xs) hs hown hx ?_
    exact h a' cp w (by rw [List.append_nil]; exact hown) (Frm.refl _ _) (fun k hk => .inl hk)
  · refine Go.wpList_append_own_at w hgd s x 27 ho B 5 i0 (.int .u8 0) 1 1 Try.underlying27 hi hz0 hz1 hz2 rfl (by decide) v n (byt xs) hs hown ⟨b, off, none⟩ ys.length cap (byt ys) hx (by simp [byt]) (fun j y hj => ?_) (fun y hy => ?_) (by unfold maxLen; omega) (by omega) hB ?_
    · obtain ⟨z, hz, rfl⟩ := byt_get hj
      rw [Addr.add_lit]
      exact h4 j z hz
    · simp only [byt, List.mem_map] at hy
      obtain ⟨z, _, rfl⟩ := hy
      rfl
    · intro v' w' hown' hgr _ hloc
      subst hN
      obtain ⟨a', cp, rfl, _⟩ := owns_shape (ownsB_mono hown' (Nat.zero_le _))
      refine h a' cp w' (by rw [byt_app]; exact hown') ((Frm.refl _ _).grown hgr (fun k hk => .inl (by simp [hk]))) (fun k hk => ?_)
      rcases hloc with h9 | h9
      · exact .inl (by rw [← h9]; exact hk)
      · rw [h9] at hk
        exact .inr (by simpa using hk.symm)

theorem buf_bytes {w : World} {v : Value} {xs : List UInt8} (h : BufAt w v xs.length xs) : BytesV w v xs := by
  rcases h.2 with ⟨rfl, h0⟩ | ⟨g, cp, cur, rfl, hg, h1, h2, h3, h4⟩
  · exact .inl ⟨rfl, List.eq_nil_of_length_eq_zero h0⟩
  · refine .inr ⟨g, 0, cp, rfl, h1, h2, (Array.getElem?_eq_some_iff.1 hg).1, fun i x hx => ?_⟩
    rw [Nat.zero_add]
    exact RowAt.cell (xs := byt xs) (e := 5) ⟨cur, hg, by rw [byt_len]; exact h4⟩ (byt_of hx)
section
variable {P : Program} (w : World)
theorem run_append_room0 (t ty e : TypeId) (i : TypeInfo) (ht : P.underlying t = some (.slice e)) (hi : P.info? e = some i)
    (g sLen sCap : Nat) (cur : Array Value) (hg : w.heap[g]? = some (.cells cur e (0, 0)))
    (a : Addr) (m c : Nat) (news : List Value) (hl : news.length = m * i.size) (hnews : ∀ j u, news[j]? = some u → w.cell? (a.add j) = some u) (h1 : ∀ u ∈ news, u.oneCell' = true)
    (hroom : sLen + m ≤ sCap) (hfit : sLen * i.size + news.length ≤ cur.size) :
    (Builtin.append_ #[t, t] ty #[.slice (some ⟨g, 0, none⟩) sLen sCap, .slice (some a) m c]).run P w =
      .ok (.slice (some ⟨g, 0, none⟩) (sLen + m) sCap) (w.setRow g (cur.toList.take (sLen * i.size) ++ news ++ cur.toList.drop (sLen * i.size + news.length)).toArray) := by
  have hf := run_firstCells_some (P := P) w i.size m a m c news hl hnews
  have hst := run_storeCells_at P g (sLen * i.size) e news 0 cur w hg (by simpa using hfit) h1
  simp only [Nat.add_zero] at hst
  simp [Builtin.append_, run_underlying ht, sizeOf, typeInfo, hi, Builtin.lenOf, hroom, hf, Addr.add_lit, hst]
theorem run_append_nil0 (t ty e : TypeId) (i : TypeInfo) (ht : P.underlying t = some (.slice e)) (hi : P.info? e = some i) (a : Option Addr) (n c : Nat) (hn : n ≤ c) :
    (Builtin.append_ #[t, t] ty #[.slice a n c, .slice none 0 0]).run P w = .ok (.slice a n c) w := by
  cases a <;> simp [Builtin.append_, run_underlying ht, sizeOf, typeInfo, hi, Builtin.lenOf, Builtin.firstCells, hn, storeCells, Result.andThen]
end
/-- append(s, u...) at []byte, s a slice that may have been cut. -/
theorem app_buf {w : World} {ops : Array Oper} {rest : List Oper} {o : Oper} {a : Act} {Q : Exit → Act → World → Prop} (hgd : o.guard = none) (s x : Operand)
    (ho : o.op = .call { callee := .builtin .append, args := #[s, x], argTypes := #[27, 27] })
    (n N : Nat) (v : Value) (xs : List UInt8) (hs : a.eval s = v) (hown : BufAt w v n xs) (u : Value) (ys : List UInt8) (hx : a.eval x = u) (hy : BytesV w u ys) (hN : n + ys.length = N) (hb : N ≤ 1000000000)
    (h : ∀ a' cp w', BufAt w' (.slice a' N cp) N (xs ++ ys) → Frm v.ownBlock.toList w w' → (∀ k, (Value.slice a' N cp).ownBlock = some k → v.ownBlock = some k ∨ k = w.heap.size) → wpList Try.prog ops Q rest (a.put o.dst (.slice a' N cp)) w') : wpList Try.prog ops Q (o :: rest) a w := by
  obtain ⟨i0, hi, hz0, hz1, hz2⟩ := info_parts infoB
  obtain ⟨hlen, hcase⟩ := hown
  rcases hcase with ⟨rfl, rfl⟩ | ⟨g, cap, cur, rfl, hg, h1, h2, h3, h4⟩
  · obtain rfl : xs = [] := List.eq_nil_of_length_eq_zero hlen
    refine app_bytes hgd s x ho 0 0 N (.slice none 0 0) [] hs (World.ownsRow_nil _ _ _ _) u ys hx hy hN hb (Nat.zero_le _) (fun a' cp w' h5 h6 h7 => h a' cp w' (BufAt.of_owns h5) h6 h7)
  · rcases hy with ⟨rfl, rfl⟩ | ⟨b, off, cap2, rfl, g1, g2, g3, g4⟩
    · rw [List.length_nil, Nat.add_zero] at hN
      subst hN
      refine wpList_plain hgd fun K hK => ?_
      have hr := run_append_nil0 (P := Try.prog) w 27 o.type 5 i0 Try.underlying27 hi (some ⟨g, 0, none⟩) n cap h1
      unfold Oper.wp execOp
      simp only [ho, resolve, invoke, builtin, Sem.run_bind, Sem.run_pure, Result.andThen_ok, List.map_toArray, List.map_cons, List.map_nil, hs, hx, hr]
      exact hK _ _ (h _ _ _ (by rw [List.append_nil]; exact ⟨hlen, .inr ⟨g, cap, cur, rfl, hg, h1, h2, h3, h4⟩⟩) (Frm.refl _ _) (fun k hk => .inl hk))
    · have hnews : ∀ j u, (byt ys)[j]? = some u → w.cell? ((⟨b, off, none⟩ : Addr).add j) = some u := fun j u hj => by
        obtain ⟨z, hz, rfl⟩ := byt_get hj
        rw [Addr.add_lit]
        exact g4 j z hz
      have hone : ∀ u ∈ byt ys, u.oneCell' = true := fun u hu => by
        simp only [byt, List.mem_map] at hu
        obtain ⟨z, _, rfl⟩ := hu
        rfl
      subst hN
      refine wpList_plain hgd fun K hK => ?_
      by_cases hroom : n + ys.length ≤ cap
      · have hr := run_append_room0 (P := Try.prog) w 27 o.type 5 i0 Try.underlying27 hi g n cap cur hg ⟨b, off, none⟩ ys.length cap2 (byt ys) (by rw [hz1, byt_len, Nat.mul_one]) hnews hone hroom (by rw [hz1, Nat.mul_one, byt_len]; omega)
        unfold Oper.wp execOp
        simp only [ho, resolve, invoke, builtin, Sem.run_bind, Sem.run_pure, Result.andThen_ok, List.map_toArray, List.map_cons, List.map_nil, hs, hx, hr]
        refine hK _ _ (h _ _ _ ⟨by rw [List.length_append, hlen], .inr ⟨g, cap, _, rfl, setRow_heap w g cur _ 5 _ hg, hroom, h2, ?_, ?_⟩⟩ ?_ (fun k hk => .inl hk))
        · rw [hz1]
          simp only [List.size_toArray, List.length_append, List.length_take, List.length_drop, Array.length_toList, byt_len]
          omega
        · rw [hz1, Nat.mul_one, h4, byt_app]
          show ((byt xs ++ byt ys) ++ _).take _ = _
          have e4 : n + ys.length = (byt xs ++ byt ys).length := by rw [List.length_append, byt_len, byt_len, hlen]
          rw [e4]
          exact List.take_left
        · exact ⟨rfl, rfl, rfl, by simp [World.setRow], fun k hk hn => setRow_other w g k _ (fun e => hn (by subst e; simp [Value.ownBlock]))⟩
      · have holds : ∀ j u, (byt xs)[j]? = some u → w.cell? ((⟨g, 0, none⟩ : Addr).add j) = some u := fun j u hj => by
          rw [Addr.add_lit, Nat.zero_add]
          exact RowAt.cell (xs := byt xs) (e := 5) ⟨cur, hg, by rw [byt_len, hlen]; exact h4⟩ hj
        have hr := run_append_grow (P := Try.prog) w 27 o.type 5 i0 (.int .u8 0) Try.underlying27 hi hz0 ⟨g, 0, none⟩ n cap (byt xs) (by rw [hz1, byt_len, Nat.mul_one, hlen]) holds ⟨b, off, none⟩ ys.length cap2 (byt ys) (by rw [hz1, byt_len, Nat.mul_one]) hnews (by omega) (by omega) (growslice_fits (by omega) (by rw [hz2]; omega))
        unfold Oper.wp execOp
        simp only [ho, resolve, invoke, builtin, Sem.run_bind, Sem.run_pure, Result.andThen_ok, List.map_toArray, List.map_cons, List.map_nil, hs, hx, hr]
        have hge := grownCap_ge w (n + ys.length) cap 5
        have hcm : grownCap w (n + ys.length) cap 5 ≤ maxLen := grownCap_le_maxLen w (n + ys.length) cap 5 (by unfold maxLen; omega)
        refine hK _ _ (h _ _ _ ⟨by rw [List.length_append, hlen], .inr ⟨w.heap.size, _, _, rfl, heap_alloc_new w.drew _, hge, hcm, ?_, ?_⟩⟩ ?_ (fun k hk => .inr (by simpa [Value.ownBlock] using hk.symm)))
        · simp only [Array.size_append, List.size_toArray, size_zeroCells, byt_len]
          simp [Value.cells]
          omega
        · simp only [Array.toList_append, List.append_assoc]
          rw [← List.append_assoc, byt_app]
          have e4 : n + ys.length = (byt xs ++ byt ys).length := by rw [List.length_append, byt_len, byt_len, hlen]
          rw [e4]
          exact List.take_left
        · exact ⟨rfl, rfl, rfl, by simp, fun k hk _ => heap_alloc_old w.drew _ hk⟩

def upd {α : Type} (f : Nat → α) (i : Nat) (x : α) : Nat → α := fun j => if j = i then x else f j
theorem upd_same {α : Type} (f : Nat → α) (i : Nat) (x : α) : upd f i x i = x := by simp [upd]
theorem upd_other {α : Type} (f : Nat → α) {i j : Nat} (x : α) (h : j ≠ i) : upd f i x j = f j := by simp [upd, h]
theorem dirDat_congr {bs bs' : Nat → Nat} {l : Dir} (h : ∀ p ∈ l, bs' p.2 = bs p.2) : dirDat bs' l = dirDat bs l := by
  rw [dirDat, dirDat]
  congr 1
  exact List.map_congr_left (fun p hp => by simp [entD, h p hp])
theorem opsC_congr {bs bs' : Nat → Nat} : ∀ {os : List OpM}, (∀ o ∈ os, o.kind ≠ 3 → bs' o.file = bs o.file) → (∀ o ∈ os, o.kind = 1 ∨ o.kind = 2 ∨ o.kind = 3) → opsC bs' os = opsC bs os
  | [], _, _ => rfl
  | o :: r, h, hk => by
    have h1 := opsC_congr (os := r) (fun x hx => h x (List.mem_cons_of_mem _ hx)) (fun x hx => hk x (List.mem_cons_of_mem _ hx))
    have h2 : opC bs' o = opC bs o := by
      rcases hk o List.mem_cons_self with e | e | e
      · simp [opC, e, h o List.mem_cons_self (by omega)]
      · simp [opC, e, h o List.mem_cons_self (by omega)]
      · simp [opC, e]
    simp only [opsC, List.flatMap_cons] at h1 ⊢
    rw [h1, h2]

section
variable {w w' : World} {d b1 b2 N : Nat} {pv : Value} {bs : Nat → Nat} {vs : Nat → Value} {live : List Nat} {m m' : DM}
theorem OpOk.kinds {n : Nat} {o : OpM} (h : OpOk n o) : o.kind = 1 ∨ o.kind = 2 ∨ o.kind = 3 := by
  rcases h with ⟨h, _⟩ | ⟨h, _⟩ | ⟨h, _⟩
  · exact .inl h
  · exact .inr (.inl h)
  · exact .inr (.inr h)
theorem OpOk.lt {n : Nat} {o : OpM} (h : OpOk n o) (hk : o.kind ≠ 3) : o.file < n := by
  rcases h with ⟨_, _, h⟩ | ⟨_, _, _, h⟩ | ⟨h, _⟩
  · exact h
  · exact h
  · exact absurd h hk
theorem DR.head (h : DR w d b1 b2 pv bs vs live m) (hr : RowAt w' d 58 (hdC m' (.map (some b1)) (.map (some b2)) pv)) (hf : Frm [d] w w') (e1 : m'.files = m.files) (e2 : m'.dir = m.dir) (e3 : m'.safe = m.safe) (e4 : m'.ops = m.ops) : DR w' d b1 b2 pv bs vs live m' := by
  have hd := h.d_ne
  refine ⟨hr, ?_, ?_, h.ne, ?_, ?_, ?_⟩
  · rw [e2]; exact h.m1.frm hf (by simpa using hd.1)
  · rw [e3]; exact h.m2.frm hf (by simpa using hd.2.1)
  · rw [e4]; exact owns_frm h.pend hf (fun k hk => by simpa using (h.pend_ne k hk).1)
  · rw [e1]; exact h.files.frm hf (fun k hk hm => hd.2.2 (by rw [List.mem_singleton] at hm; rw [← hm]; exact hk))
  · refine ⟨by rw [e2]; exact h.live.dir, by rw [e3]; exact h.live.safe, by rw [e4]; exact h.live.ops⟩
theorem fileAt_app {fs : List FM} {f : FM} {i : Nat} (hi : i < fs.length) : fileAt (fs ++ [f]) i = fileAt fs i := by
  rw [fileAt, fileAt, List.getD_eq_getElem?_getD, List.getD_eq_getElem?_getD, List.getElem?_append_left hi]
theorem fileAt_new (fs : List FM) (f : FM) : fileAt (fs ++ [f]) fs.length = f := fileAt_of (by simp)
theorem DR.grow (h : DR w d b1 b2 pv bs vs live m) (ho : DOk N m) {g : Nat} (hf : Frm [] w w') (hg : w.heap.size ≤ g) (hr : RowAt w' g 62 [.slice none 0 0, .int .i64 0]) :
    DR w' d b1 b2 pv (upd bs m.files.length g) (upd vs m.files.length (.slice none 0 0)) (m.files.length :: live) { m with files := m.files ++ [⟨[], 0⟩] } := by
  have hH := h.frm hf (by simp)
  have hbl := h.files.blocks
  have hb : ∀ i, i < m.files.length → upd bs m.files.length g i = bs i := fun i hi => upd_other _ _ (by omega)
  have hv : ∀ i, i < m.files.length → upd vs m.files.length (.slice none 0 0) i = vs i := fun i hi => upd_other _ _ (by omega)
  refine ⟨hH.hd, ?_, ?_, h.ne, ?_, ?_, ?_⟩
  · show MapD w' b1 _ m.dir
    rw [MapD, dirDat_congr (fun p hp => hb _ (ho.dirOk.file p hp))]
    exact hH.m1
  · show MapD w' b2 _ m.safe
    rw [MapD, dirDat_congr (fun p hp => hb _ (ho.safeOk.file p hp))]
    exact hH.m2
  · show w'.ownsRow 0 _ 3 pv m.ops.length _
    rw [opsC_congr (fun o hm hk => hb _ ((ho.ops o hm).lt hk)) (fun o hm => (ho.ops o hm).kinds)]
    exact hH.pend
  · refine ⟨fun i hi => ?_, fun i hi => ?_, fun i hi => ?_, fun i hi j hj e => ?_, fun i hi j hj k e1 e2 => ?_⟩
    · simp only [List.length_append, List.length_singleton]
      rcases List.mem_cons.1 hi with rfl | hi
      · omega
      · have := h.files.lt i hi; omega
    · rcases List.mem_cons.1 hi with rfl | hi
      · rw [upd_same, upd_same, fileAt_new]
        exact hr
      · have := h.files.lt i hi
        rw [hb i this, hv i this, fileAt_app this]
        exact hH.files.at_ i hi
    · rcases List.mem_cons.1 hi with rfl | hi
      · rw [upd_same, fileAt_new]
        exact BufAt.nil _
      · have := h.files.lt i hi
        rw [hv i this, fileAt_app this]
        exact hH.files.data i hi
    · rcases List.mem_cons.1 hi with rfl | hi
      · rcases List.mem_cons.1 hj with rfl | hj
        · rfl
        · rw [upd_same, hb j (h.files.lt j hj)] at e
          have := hbl (bs j) (mem_fileB.2 (.inl ⟨j, hj, rfl⟩))
          omega
      · rcases List.mem_cons.1 hj with rfl | hj
        · rw [upd_same, hb i (h.files.lt i hi)] at e
          have := hbl (bs i) (mem_fileB.2 (.inl ⟨i, hi, rfl⟩))
          omega
        · rw [hb i (h.files.lt i hi), hb j (h.files.lt j hj)] at e
          exact h.files.inj1 i hi j hj e
    · rcases List.mem_cons.1 hi with rfl | hi
      · rw [upd_same] at e1
        simp [Value.ownBlock] at e1
      · rcases List.mem_cons.1 hj with rfl | hj
        · rw [upd_same] at e2
          simp [Value.ownBlock] at e2
        · rw [hv i (h.files.lt i hi)] at e1
          rw [hv j (h.files.lt j hj)] at e2
          exact h.files.inj2 i hi j hj k e1 e2
  · exact ⟨fun p hp => List.mem_cons_of_mem _ (h.live.dir p hp), fun p hp => List.mem_cons_of_mem _ (h.live.safe p hp), fun o hm hk => List.mem_cons_of_mem _ (h.live.ops o hm hk)⟩
theorem DR.put (h : DR w d b1 b2 pv bs vs live m) {i : Nat} (hi : i ∈ live) {v : Value} {f : FM} (hr : RowAt w' (bs i) 62 [v, .int .i64 (f.safe : Int)]) (hv : BufAt w' v f.data.length f.data) (hf : Frm (bs i :: (vs i).ownBlock.toList) w w') (hn : ∀ k, v.ownBlock = some k → (vs i).ownBlock = some k ∨ w.heap.size ≤ k) :
    DR w' d b1 b2 pv bs (upd vs i v) live { m with files := m.files.set i f } := by
  have hl := h.files.lt i hi
  have hin : ∀ k, k ∈ bs i :: (vs i).ownBlock.toList → k ∈ fileB bs vs live := fun k hk => by
    rcases List.mem_cons.1 hk with rfl | hk
    · exact mem_fileB.2 (.inl ⟨i, hi, rfl⟩)
    · exact mem_fileB.2 (.inr ⟨i, hi, by simpa using hk⟩)
  have hoff : ∀ j ∈ live, j ≠ i → bs j ∉ bs i :: (vs i).ownBlock.toList := fun j hj hne hm => by
    rcases List.mem_cons.1 hm with e | e
    · exact hne (h.files.inj1 j hj i hi e)
    · have := buf_row_ty (h.files.data i hi) (h.files.at_ j hj) (by simpa using e)
      exact absurd this (by decide)
  have hoff2 : ∀ j ∈ live, j ≠ i → ∀ k, (vs j).ownBlock = some k → k ∉ bs i :: (vs i).ownBlock.toList := fun j hj hne k hk hm => by
    rcases List.mem_cons.1 hm with e | e
    · have := buf_row_ty (h.files.data j hj) (h.files.at_ i hi) (e ▸ hk)
      exact absurd this (by decide)
    · exact hne (h.files.inj2 j hj i hi k hk (by simpa using e))
  refine ⟨h.hd.frm hf (fun hm => h.d_ne.2.2 (hin _ hm)), h.m1.frm hf (fun hm => h.map_ne.1 (hin _ hm)), h.m2.frm hf (fun hm => h.map_ne.2 (hin _ hm)), h.ne, owns_frm h.pend hf (fun k hk hm => (h.pend_ne k hk).2.2.2 (hin _ hm)), ?_, ⟨h.live.dir, h.live.safe, h.live.ops⟩⟩
  refine ⟨fun j hj => ?_, fun j hj => ?_, fun j hj => ?_, h.files.inj1, fun j hj j' hj' k e1 e2 => ?_⟩
  · show j < (m.files.set i f).length
    rw [List.length_set]
    exact h.files.lt j hj
  · show RowAt w' (bs j) _ [_, .int .i64 ((fileAt (m.files.set i f) j).safe : Int)]
    rw [fileAt_set hl]
    by_cases e : j = i
    · subst e
      rw [upd_same, if_pos rfl]
      exact hr
    · rw [upd_other _ _ e, if_neg e]
      exact (h.files.at_ j hj).frm hf (hoff j hj e)
  · show BufAt w' _ (fileAt (m.files.set i f) j).data.length (fileAt (m.files.set i f) j).data
    rw [fileAt_set hl]
    by_cases e : j = i
    · subst e
      rw [upd_same, if_pos rfl]
      exact hv
    · rw [upd_other _ _ e, if_neg e]
      exact buf_frm (h.files.data j hj) hf (hoff2 j hj e)
  · by_cases e : j = i
    · by_cases e' : j' = i
      · rw [e, e']
      · exfalso
        rw [e, upd_same] at e1
        rw [upd_other _ _ e'] at e2
        rcases hn k e1 with h9 | h9
        · exact e' (h.files.inj2 j' hj' i hi k e2 h9)
        · have := h.files.blocks k (mem_fileB.2 (.inr ⟨j', hj', e2⟩)); omega
    · by_cases e' : j' = i
      · exfalso
        rw [e', upd_same] at e2
        rw [upd_other _ _ e] at e1
        rcases hn k e2 with h9 | h9
        · exact e (h.files.inj2 j hj i hi k e1 h9)
        · have := h.files.blocks k (mem_fileB.2 (.inr ⟨j, hj, e1⟩)); omega
      · rw [upd_other _ _ e] at e1
        rw [upd_other _ _ e'] at e2
        exact h.files.inj2 j hj j' hj' k e1 e2
end

end Go.Proofs.Ytkebdgbjgbcneaa
