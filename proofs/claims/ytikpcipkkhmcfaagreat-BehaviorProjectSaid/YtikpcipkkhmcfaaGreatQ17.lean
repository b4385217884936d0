/- Contract of graph.Components. -/
import Derived.Test.YtikpcipkkhmcfaaGreatQ00
import Derived.Test.YtikpcipkkhmcfaaGreatQ15
import Derived.WalkMore
namespace Go.Proofs.YtikpcipkkhmcfaaGreat
open Go.RowKit

theorem step_make_i (w : World) {ops : Array Oper} {o : Oper} {a : Act} {K : Act → World → Prop} {Q : Exit → Act → World → Prop} {E : Prop} (hgd : o.guard = none) (l : Operand) (hop : o.op = Op.makeSlice 22 l l) (L : Int) (n : Nat) (hl : a.eval l = .int .i64 L) (hL : L = (n : Int)) (hn : n ≤ 1000000)
  (hK : ∀ w', w'.ownsRow w.heap.size 3 1 (.slice (some ⟨w.heap.size, 0, none⟩) n n) n (ints (List.replicate n 0)) → Frm [] w w' → w.heap.size < w'.heap.size → K (a.put o.dst (.slice (some ⟨w.heap.size, 0, none⟩) n n)) w') :
  if Region.wanted o (yielded ops a.tmps) = true then Oper.wp Tryz.prog o a w K Q else E := by
 have hw : Region.wanted o (yielded ops a.tmps) = true := by simp [Region.wanted, hgd]
 rw [if_pos hw]
 obtain ⟨i0, hi, hz0, hz1, hz2⟩ := info_parts infoInt
 obtain ⟨w', hrun, r1, r2⟩ := run_make_full (P := Tryz.prog) w w.heap.size 22 3 i0 (.int .i64 0) 1 Tryz.underlying22 hi hz0 hz1 .i64 .i64 n (by rw [hz2]; omega) (by unfold maxLen; omega) (Nat.le_refl _)
 subst hL
 unfold Oper.wp
 simp [execOp, hop, hl, hrun, Result.andThen]
 have hm : (madeCells (Value.int .i64 0).cells (n * 1)).toList = ints (List.replicate n 0) := by
  rw [Nat.mul_one]
  exact (toList_madeCells_one _ _).trans (by simp [ints])
 rw [hm] at r1
 exact hK w' r1 ((Frm.refl [] w).grown r2 (by simp)) (r1.lt _ rfl).2

def CompEnd (B : Nat) (l : Lts) (silent : Bool) (w' : World) (e : Ending) : Prop :=
 if validB l = true then ∃ g out, e = .returned (.slice (some ⟨g, 0, none⟩) l.length l.length) ∧ w'.ownsRow B 3 1 (.slice (some ⟨g, 0, none⟩) l.length l.length) l.length (ints out) ∧ Tj.IsComp (Esel l silent) l.length out
 else e = .returned (.slice none 0 0)

theorem own_rowg {B : Nat} {w : World} {e size g n cap : Nat} {xs : List Value} (h : w.ownsRow B e size (.slice (some ⟨g, 0, none⟩) n cap) n xs) : RowAt w g e xs := by
 rcases h.2 with ⟨h0, _⟩ | ⟨g', cp', cur, h0, hb, hg, h1, h2, h3, h4⟩
 ·cases h0
 ·obtain ⟨rfl, rfl⟩ : g = g' ∧ cap = cp' := by simpa using h0
  exact ⟨cur, hg, by have := h.1; rw [this]; exact h4⟩

/-- At the head of the loop over the arcs of s. -/
def L3Rel (E : Nat → List Nat) (B n gi gl go gp cp1 m1 : Nat) (ao2 : Option Addr) (co2 : Nat) (st2 : Tj.St) (s : Nat) (r : List (Nat × Nat)) (m : Nat) (wb w3 : World) (q : Nat) (wr : World) : Prop :=
 ∃ (j : Nat) (lw : List Int), q = m - j ∧ j ≤ m ∧ Mid E B n wr gi gl go (.slice (some ⟨gp, 0, none⟩) m1 cp1) (.slice ao2 st2.opn.length co2) { st2 with low := lw, path := (s, j) :: r } s j r ∧ Frm [] wb wr ∧ Frm [gp, gl] w3 wr
theorem Mid.nil {E : Nat → List Nat} {B n : Nat} {wr w' : World} {gi gl go : Nat} {vp vo : Value} {st : Tj.St} {s k : Nat} {r : List (Nat × Nat)} (h : Mid E B n wr gi gl go vp vo st s k r) (hf : Frm [] wr w') : Mid E B n w' gi gl go vp vo st s k r :=
 ⟨h.path, h.rep.nil hf, h.inv, h.nx, h.nk, h.cnt⟩
theorem Mid.self {E : Nat → List Nat} {B n : Nat} {wr : World} {gi gl go : Nat} {vp vo : Value} {st : Tj.St} {s k : Nat} {r : List (Nat × Nat)} (h : Mid E B n wr gi gl go vp vo st s k r) : st = { st with low := st.low, path := (s, k) :: r } := by
 have := h.path
 cases st
 simp at this
 subst this
 rfl

theorem RowR.cut {B : Nat} {w : World} {a : Option Addr} {cap : Nat} {row : List Arc} (h : RowR B w a cap row) : RowR w.heap.size w a cap row :=
 ⟨h.1, h.2.1, h.2.2.1, fun j e t hj => by
  obtain ⟨b, o, ha, _, h1, h2⟩ := h.2.2.2 j e t hj
  exact ⟨b, o, ha, World.block_lt_of_cell? _ _ h1, h1, h2⟩⟩
theorem LAt.cut {B : Nat} {w : World} {a : Option Addr} {cap : Nat} {l : Lts} (h : LAt B w a cap l) : LAt w.heap.size w a cap l :=
 ⟨h.le, h.max, h.few, fun i row hi => by
  obtain ⟨b, o, ra, rc, ha, _, h1, h2⟩ := h.cell i row hi
  exact ⟨b, o, ra, rc, ha, World.block_lt_of_cell? _ _ h1, h1, RowR.cut h2⟩⟩
theorem TRep.appPath2 {B n : Nat} {w w' : World} {gi gl go g cp m : Nat} {vp vo : Value} {idx low out : List Int} {opn : List Nat} {pm : List (Nat × Nat)} (h : TRep B n w gi gl go vp vo idx low out opn pm) (t : Nat) (hm : pm.length = m)
  (ho : w'.ownsRow B 127 2 (.slice (some ⟨g, 0, none⟩) (m + 1) cp) (m + 1) (flatV pm ++ [.int .i64 (t : Int), .int .i64 0])) (hf : Frm vp.ownBlock.toList w w') (hg : vp.ownBlock = some g ∨ w.heap.size ≤ g) :
  TRep B n w' gi gl go (.slice (some ⟨g, 0, none⟩) (m + 1) cp) vo idx low out opn (pm ++ [(t, 0)]) := by
 subst hm
 have := h.appPath t ho hf hg
 simpa using this
theorem pathOk_pw {E : Nat → List Nat} {st : Tj.St} : ∀ {c : Option Nat} {l : List (Nat × Nat)}, Tj.PathOk E st c l → (l.map Prod.fst).Pairwise (fun a b => Tj.ix st.idx b < Tj.ix st.idx a)
 | _, [], _ => List.Pairwise.nil
 | none, (s, k) :: r, h => by
  simp only [List.map_cons]
  refine List.pairwise_cons.2 ⟨fun b hb => ?_, pathOk_pw h.2.2.2⟩
  obtain ⟨q, hq, rfl⟩ := List.mem_map.1 hb
  exact h.2.2.1 q hq
 | some t, (s, k) :: r, h => by
  simp only [List.map_cons]
  refine List.pairwise_cons.2 ⟨fun b hb => ?_, pathOk_pw h.2.2.2⟩
  obtain ⟨q, hq, rfl⟩ := List.mem_map.1 hb
  exact h.2.2.1 q hq
theorem path_len {E : Nat → List Nat} {n : Nat} {st : Tj.St} {c : Option Nat} (h : Tj.Inv E n st c) : st.path.length ≤ st.opn.length := by
 have hnd : (st.path.map Prod.fst).Nodup := (pathOk_pw h.path).imp (fun {a b} hab e => by subst e; omega)
 have hsub : st.path.map Prod.fst ⊆ st.opn := fun v hv => by
  obtain ⟨q, hq, rfl⟩ := List.mem_map.1 hv
  exact h.path.opn q hq
 have := hnd.length_le_of_subset hsub
 simpa using this
theorem TRep.popPath2 {B n : Nat} {w : World} {gi gl go gp cp m : Nat} {vo : Value} {idx low out : List Int} {opn : List Nat} {p : List (Nat × Nat)} {q : Nat × Nat} (h : TRep B n w gi gl go (.slice (some ⟨gp, 0, none⟩) (m + 1) cp) vo idx low out opn (p ++ [q])) (hm : p.length = m) :
  TRep B n w gi gl go (.slice (some ⟨gp, 0, none⟩) m cp) vo idx low out opn p := by
 subst hm
 have e : p.length + 1 = (p ++ [q]).length := by simp
 rw [e] at h
 exact h.popPath

theorem cells_new_at2 (w : World) (x y : Int) (t : TypeId) (k : Nat) (hk : w.heap.size = k) : ∀ (j : Nat) (u : Value), ([.int .i64 x, .int .i64 y] : List Value)[j]? = some u → (w.alloc (.cells #[.int .i64 x, .int .i64 y] t)).cell? ((⟨k, 0, none⟩ : Addr).add j) = some u := by
 subst hk
 exact cells_new w [.int .i64 x, .int .i64 y] t

theorem opn_len {E : Nat → List Nat} {n : Nat} {st : Tj.St} {c : Option Nat} (h : Tj.Inv E n st c) : st.opn.length ≤ n := by
 have hnd : st.opn.Nodup := h.asc.imp (fun {a b} hab e => by subst e; omega)
 have hsub : st.opn ⊆ List.range n := fun v hv => List.mem_range.2 ((h.opn v).1 hv).1
 have := hnd.length_le_of_subset hsub
 simpa using this

/-- What the first half of a round leaves. -/
def MidRel (E : Nat → List Nat) (B n gi gl go gp cp1 : Nat) (pm : List (Nat × Nat)) (s kk k q q2 : Nat) (wb : World) (s9 s11 : Value) (wx : World) : Prop :=
 ∃ (st2 : Tj.St) (ao2 : Option Addr) (co2 : Nat) (r : List (Nat × Nat)), s9 = .int .i64 (st2.cnt : Int) ∧ s11 = .slice ao2 st2.opn.length co2 ∧ r.reverse = pm ∧ Mid E B n wx gi gl go (.slice (some ⟨gp, 0, none⟩) (pm.length + 1) cp1) (.slice ao2 st2.opn.length co2) st2 s kk r ∧ 0 < Tj.ix st2.idx k ∧ (∀ v, v < k → 0 < Tj.ix st2.idx v) ∧ 2 * c0 st2.idx + q2 = q ∧ Frm [] wb wx

set_option linter.unusedSimpArgs false in
set_option maxRecDepth 100000 in
set_option maxHeartbeats 8000000 in
theorem comps_any (B0 : Nat) (a : Option Addr) (cap : Nat) (l : Lts) (silent : Bool) (w : World) (h : LAt B0 w a cap l) :
  Calls Tryz.prog 89 #[.agg #[.slice a l.length cap], .bool silent] w fun e w' => CompEnd w.heap.size l silent w' e ∧ Frm [] w w' := by
 have f0 : Frm [] w (w.alloc (.cells #[.slice a l.length cap] 25)) := (Frm.refl [] w).alloc _
 have hcut0 := h.cut
 clear h
 have h := hcut0
 clear hcut0
 have hbox := box1 w (.slice a l.length cap) 25
 have HB := Lib.hid hbox
 have HL0 := Lib.hid (h.nil f0 rfl)
 have hva := valid_any w.heap.size a cap l _ (h.nil f0 rfl)
 have hl := h.lt
 have HOR := Lib.hid h
 clear h hbox
 go_enter Tryz.func89, Tryz.ntmps89
 go_wp2_with fail
 refine hva.mono ?_
 rintro e1 w1 ⟨rfl, hf1⟩
 clear hva
 have F1 := f0.trans hf1 (by simp)
 have hb1 := (HB.out.frm hf1 (by simp)).cell (i := 0) rfl
 cases hv : validB l with
 | false =>
  have HR : Hid (CompEnd w.heap.size l silent w1 (.returned (.slice none 0 0))) := Lib.hid (by rw [CompEnd, if_neg (by rw [hv]; simp)])
  clear hv
  go_wp2_with fail
  go_ret
  exact ⟨HR.out, F1⟩
 | true =>
  have HV := Lib.hid hv
  have hvl := vlts_of hv
  have hpos := hvl.pos
  have hfew := hvl.few
  have HVL := Lib.hid hvl
  have HL1 := Lib.hid (HL0.out.frm hf1 (by simp))
  obtain ⟨n, hn⟩ : ∃ n, l.length = n := ⟨_, rfl⟩
  have HN := Lib.hid hn
  have i1 : (1 : Int) ≤ (l.length : Int) := by omega
  have i2 : (l.length : Int) ≤ 16384 := by omega
  clear hv hvl hn
  go_wp2_with fail
  have hminus : (w1.alloc (.cells #[.int .i64 (-1)] 3)).cell? ⟨w1.heap.size, 0, none⟩ = some (.int .i64 (-1)) := (RowAt.made w1 3 [.int .i64 (-1)] #[.int .i64 (-1)] rfl).cell (i := 0) rfl
  have hrep := repeat_any w1.heap.size 0 1 l.length (-1) _ hminus (by omega) (by omega)
  have HREP := Lib.hid hrep
  have HF1 := Lib.hid (F1.alloc (.cells #[.int .i64 (-1)] 3))
  clear hminus hrep F1
  refine HREP.out.mono ?_
  rintro e2 w2 ⟨go, rfl, hro2, hf2⟩
  have F2 := HF1.out.trans hf2 (by simp)
  have hb2 := hf2.cell (((Frm.refl [] w1).alloc (.cells #[.int .i64 (-1)] 3)).cell hb1 (by simp)) (by simp)
  have HRO2 := Lib.hid (ownsB_mono hro2 (show w.heap.size + 1 ≤ _ by have := hf1.size; simp at this ⊢; omega))
  have HF2 := Lib.hid F2
  have HFB2 : Hid (Frm [] (w.alloc (.cells #[.slice a l.length cap] 25)) w2) := Lib.hid ((hf1.trans ((Frm.refl [] w1).alloc _) (by simp)).trans hf2 (by simp))
  have HB2 := Lib.hid hb2
  have HL2 := Lib.hid ((HL1.out.frm ((Frm.refl [] w1).alloc (.cells #[.int .i64 (-1)] 3)) (by simp)).frm hf2 (by simp))
  clear hro2 F2 hb1 HREP
  go_upto_region 5 with fail
  go_cut [7, 8] (fun s7 s8 wx => ∃ gi gl : Nat, s7 = .slice (some ⟨gi, 0, none⟩) l.length l.length ∧ s8 = .slice (some ⟨gl, 0, none⟩) l.length l.length ∧ gi ≠ gl ∧ gi ≠ go ∧ gl ≠ go ∧ wx.ownsRow (w.heap.size + 1) 3 1 (.slice (some ⟨gi, 0, none⟩) l.length l.length) l.length (ints (List.replicate l.length 0)) ∧ wx.ownsRow (w.heap.size + 1) 3 1 (.slice (some ⟨gl, 0, none⟩) l.length l.length) l.length (ints (List.replicate l.length 0)) ∧ Frm [] w2 wx)
  case first =>
   refine wp_region_held_drew (S := fun _ => True) (by kernel_rfl) (trivial) ?_
   intro hHeld
   refine qtk 0 (v := ?_) rfl (by kernel_rfl) (fun _ _ _ h => h) (by rfl) (by assumption) ?_ ?_
   rotate_left
   ·(intro w9 hS9; (try dsimp only at hS9); go_split_ands; go_simp; try with_reducible rfl)
   try simp only [Act.put, qgA, qgS, qg0, qsA, qs0, qsS]
   refine qtk 2 (v := ?_) rfl (by kernel_rfl) (fun _ _ _ h => h) (by rfl) (by assumption) ?_ ?_
   rotate_left
   ·(intro w9 hS9; (try dsimp only at hS9); go_split_ands; go_simp; try with_reducible rfl)
   try simp only [Act.put, qgA, qgS, qg0, qsA, qs0, qsS]
   refine wpAnyH_ready (rs := [1, 3]) (by kernel_rfl) (by simp) ?_
   have hgo2 := (HRO2.out.lt go rfl).2
   have hw2 := HFB2.out.size
   simp only [World.alloc, Array.size_push] at hw2
   refine AllReadyH.cons rfl (fun K hK => ?_) (AllReadyH.cons rfl (fun K hK => ?_) AllReadyH.nil)
   ·refine step_make_i _ rfl (.tmp 27) rfl _ l.length rfl rfl (by omega) ?_
    intro w3 hi3 hf3 hs3
    refine hK.out _ _ trivial (fun hHeld => ?_)
    clear hK K
    try simp only [Act.put, qgA, qgS, qg0, qsA, qs0, qsS]
    refine qtk 4 (v := ?_) rfl (by kernel_rfl) (fun _ _ _ h => h) (by rfl) (by assumption) ?_ ?_
    rotate_left
    ·(intro w9 hS9; (try dsimp only at hS9); go_split_ands; go_simp; try with_reducible rfl)
    try simp only [Act.put, qgA, qgS, qg0, qsA, qs0, qsS]
    refine wpAnyH_ready (rs := [3]) (by kernel_rfl) (by simp) ?_
    refine AllReadyH.cons rfl (fun K hK => ?_) AllReadyH.nil
    refine step_make_i _ rfl (.tmp 29) rfl _ l.length rfl rfl (by omega) ?_
    intro w4 hi4 hf4 hs4
    refine hK.out _ _ trivial (fun hHeld => ?_)
    clear hK K
    try simp only [Act.put, qgA, qgS, qg0, qsA, qs0, qsS]
    refine qtk 5 (v := ?_) rfl (by kernel_rfl) (fun _ _ _ h => h) (by rfl) (by assumption) ?_ ?_
    rotate_left
    ·(intro w9 hS9; (try dsimp only at hS9); go_split_ands; go_simp; try with_reducible rfl)
    try simp only [Act.put, qgA, qgS, qg0, qsA, qs0, qsS]
    refine wpAnyH_done (by kernel_rfl) ?_ _
    have hf34 : Frm [] w2 w4 := ((Frm.refl [] w2).drew.trans hf3 (by simp)).trans hf4 (by simp)
    have hi4' := ownsB_mono hi4 (show w.heap.size + 1 ≤ _ by have := hf3.size; simp at this; omega)
    have hi3' := ownsB_mono (ownsB_frm hi3 hf4 (by simp)) (show w.heap.size + 1 ≤ _ by simp; omega)
    have hlt3 := hf3.size
    simp at hlt3 hs3
    go_wp2_with fail
    go_meet
    exact ⟨w2.heap.size, w3.heap.size, rfl, rfl, by omega, by omega, by omega, hi3', hi4', hf34⟩
   ·refine step_make_i _ rfl (.tmp 29) rfl _ l.length rfl rfl (by omega) ?_
    intro w3 hi3 hf3 hs3
    refine hK.out _ _ trivial (fun hHeld => ?_)
    clear hK K
    try simp only [Act.put, qgA, qgS, qg0, qsA, qs0, qsS]
    refine wpAnyH_ready (rs := [1]) (by kernel_rfl) (by simp) ?_
    refine AllReadyH.cons rfl (fun K hK => ?_) AllReadyH.nil
    refine step_make_i _ rfl (.tmp 27) rfl _ l.length rfl rfl (by omega) ?_
    intro w4 hi4 hf4 hs4
    refine hK.out _ _ trivial (fun hHeld => ?_)
    clear hK K
    try simp only [Act.put, qgA, qgS, qg0, qsA, qs0, qsS]
    refine qtk 4 (v := ?_) rfl (by kernel_rfl) (fun _ _ _ h => h) (by rfl) (by assumption) ?_ ?_
    rotate_left
    ·(intro w9 hS9; (try dsimp only at hS9); go_split_ands; go_simp; try with_reducible rfl)
    try simp only [Act.put, qgA, qgS, qg0, qsA, qs0, qsS]
    refine qtk 5 (v := ?_) rfl (by kernel_rfl) (fun _ _ _ h => h) (by rfl) (by assumption) ?_ ?_
    rotate_left
    ·(intro w9 hS9; (try dsimp only at hS9); go_split_ands; go_simp; try with_reducible rfl)
    try simp only [Act.put, qgA, qgS, qg0, qsA, qs0, qsS]
    refine wpAnyH_done (by kernel_rfl) ?_ _
    have hf34 : Frm [] w2 w4 := ((Frm.refl [] w2).drew.trans hf3 (by simp)).trans hf4 (by simp)
    have hi4' := ownsB_mono hi4 (show w.heap.size + 1 ≤ _ by have := hf3.size; simp at this; omega)
    have hi3' := ownsB_mono (ownsB_frm hi3 hf4 (by simp)) (show w.heap.size + 1 ≤ _ by simp; omega)
    have hlt3 := hf3.size
    simp at hlt3 hs3
    go_wp2_with fail
    go_meet
    exact ⟨w3.heap.size, w2.heap.size, rfl, rfl, by omega, by omega, by omega, hi4', hi3', hf34⟩
  case rest =>
   obtain ⟨gi, gl, rfl, rfl, d1, d2, d3, hri, hrl, hf5⟩ := hcut
   have hst0 := Tj.Inv.start (Esel l silent) l.length (esel_edge HVL.out silent)
   have hs0 : Srch (Esel l silent) (w.heap.size + 1) l.length wc gi gl go (.slice none 0 0) (.slice none 0 0) { idx := List.replicate l.length 0, low := List.replicate l.length 0, out := List.replicate l.length (-1), cnt := 0, opn := [], path := [] } none :=
    ⟨⟨hri, hrl, own_frm_out HRO2.out hf5 (by simp), ⟨rfl, .inl ⟨rfl, rfl⟩⟩, ⟨rfl, .inl ⟨rfl, rfl⟩⟩, d1, d2, d3, fun k hk => by simp [Value.ownBlock] at hk, fun k hk => by simp [Value.ownBlock] at hk⟩, hst0, by simp, by show 0 + c0 (List.replicate l.length 0) = l.length; rw [c0_rep]; omega⟩
   have HS0 := Lib.hid hs0
   have HFB5 := Lib.hid (HFB2.out.trans hf5 (by simp))
   clear hst0 hs0 hri hrl hf5 hf1 hf2 hb2
   go_wp2_with fail
   go_loopg [9, 10, 11, 32] l.length (fun q c p o i wr => ∃ (k : Nat) (st : Tj.St) (ap ao : Option Addr) (cp co : Nat), q = l.length - k ∧ k ≤ l.length ∧ i = .int .i64 (k : Int) ∧ c = .int .i64 (st.cnt : Int) ∧ p = .slice ap 0 cp ∧ o = .slice ao 0 co ∧ st.path = [] ∧ Srch (Esel l silent) (w.heap.size + 1) l.length wr gi gl go (.slice ap 0 cp) (.slice ao 0 co) st none ∧ (∀ v, v < k → 0 < Tj.ix st.idx v) ∧ Frm [] (w.alloc (.cells #[.slice a l.length cap] 25)) wr)
   case atStart => exact ⟨0, _, none, none, 0, 0, rfl, Nat.zero_le _, rfl, rfl, rfl, rfl, rfl, HS0.out, fun v hv => by omega, HFB5.out⟩
   case round =>
    obtain ⟨k, st, ap, ao, cp, co, rfl, hk, rfl, rfl, rfl, rfl, hpath, hsr, hvis, hF⟩ := hrel
    have HSR := Lib.hid hsr
    have HVIS := Lib.hid hvis
    have HF := Lib.hid hF
    have HPATH := Lib.hid hpath
    have i4 : (0 : Int) ≤ (k : Int) := by omega
    have i5 : (k : Int) ≤ 16384 := by omega
    clear hsr hvis hF hpath
    by_cases hlt : k < l.length
    ·have i6 : (k : Int) < (l.length : Int) := by omega
     obtain ⟨x, hx⟩ : ∃ x, st.idx[k]? = some x := ⟨_, List.getElem?_eq_getElem (by rw [HSR.out.inv.li]; exact hlt)⟩
     have c7 := (own_row HSR.out.rep.ri).cell (ints_get hx)
     have hxx := Tj.ix_get hx
     by_cases hx0 : 0 < x
     ·have HXX := Lib.hid hxx
      clear hx hxx
      go_wp2_with fail
      go_step3
      go_wp2_with fail
      rw [Exit.noGoto_exit]
      go_wp2_with fail
      go_roundg (l.length - (k + 1))
      case rel => exact ⟨k + 1, st, ap, ao, cp, co, rfl, by omega, by go_num, rfl, rfl, rfl, HPATH.out, HSR.out, fun v hv => by
       rcases Nat.lt_or_ge v k with h9 | h9
       ·exact HVIS.out v h9
       ·have : v = k := by omega
        subst this
        rw [HXX.out]; exact hx0, HF.out⟩
      case measure => omega
     ·have hx1 : x = 0 := by
       have := HSR.out.inv.pos k hlt
       omega
      subst hx1
      have HXX := Lib.hid hxx
      clear hx hxx hx0
      have hrp0 : wr.ownsRow (w.heap.size + 1) 127 2 (.slice ap 0 cp) 0 (flatV []) := by
       have := HSR.out.rep.rp
       rw [HPATH.out] at this
       exact this
      have HRP0 := Lib.hid hrp0
      have hszr := HF.out.size
      simp only [World.alloc, Array.size_push] at hszr
      clear hrp0
      go_wp2_with fail
      go_step3
      go_wp2_with (first | (at_builtin; refine wpl_app_at rfl (.tmp 40) (.tmp 43) 125 127 (.agg #[.int .i64 0, .int .i64 0]) 2 16 Tryz.underlying125 infoVisit rfl (by decide) rfl (w.heap.size + 1) 0 1 (.slice ap 0 cp) (flatV []) rfl (HRP0.out.alloc _) ⟨wr.heap.size, 0, none⟩ 1 [.int .i64 (k : Int), .int .i64 0] rfl rfl (cells_new wr [.int .i64 (k : Int), .int .i64 0] _) (by simp [Value.oneCell']) rfl (by omega) (by omega) (by simp; omega) ?_) | (at_builtin; fail))
      intro g10 cp10 w10 hown10 hf10 hg10
      have hsr10 : Srch (Esel l silent) (w.heap.size + 1) l.length w10 gi gl go (.slice (some ⟨g10, 0, none⟩) 1 cp10) (.slice ao 0 co) st (some k) := by
       have hr := HSR.out.rep
       rw [HPATH.out] at hr
       have h1 := (hr.alloc (.cells #[.int .i64 (k : Int), .int .i64 0] 127)).appPath (t := k) hown10 hf10 (by rcases hg10 with h9 | h9; exact .inl h9; exact .inr (by simp; omega))
       exact ⟨by rw [HPATH.out]; exact h1, HSR.out.inv.root HPATH.out hlt HXX.out, by rw [HPATH.out]; simp, HSR.out.cnt⟩
      have hopn0 : st.opn = [] := HSR.out.empty HPATH.out
      have F10 : Frm [] (w.alloc (.cells #[.slice a l.length cap] 25)) w10 := by
       have h1 := (HF.out.alloc (.cells #[.int .i64 (k : Int), .int .i64 0] 127))
       refine h1.trans hf10 (fun q hq => .inr ?_)
       have := (HSR.out.rep.rp.lt q (by simpa using hq)).1
       simpa using this
      have HSR10 := Lib.hid hsr10
      have HOPN0 := Lib.hid hopn0
      have HF10 := Lib.hid F10
      clear hsr10 hopn0 F10 hown10 hf10 c7
      go_wp2_with fail
      go_step3
      go_wp2_with fail
      have hc0 : 1 ≤ c0 st.idx := c0_pos (t := k) (by rw [ix_some HSR.out.inv.li hlt, HXX.out])
      have i7 : st.cnt + c0 st.idx = l.length := HSR.out.cnt
      go_loopg [9, 10, 11] (2 * c0 st.idx - 1) (fun q c p o wr => ∃ (st : Tj.St) (fr : Option Nat) (ap ao : Option Addr) (cp co : Nat), q + 2 * fr.toList.length = 2 * c0 st.idx + (memP st.path fr).length ∧ c = .int .i64 (st.cnt : Int) ∧ p = .slice ap (memP st.path fr).length cp ∧ o = .slice ao st.opn.length co ∧ Srch (Esel l silent) (w.heap.size + 1) l.length wr gi gl go (.slice ap (memP st.path fr).length cp) (.slice ao st.opn.length co) st fr ∧ (fr = some k ∨ 0 < Tj.ix st.idx k) ∧ (∀ v, v < k → 0 < Tj.ix st.idx v) ∧ Frm [] (w.alloc (.cells #[.slice a l.length cap] 25)) wr)
      case atStart =>
       refine ⟨st, some k, some ⟨g10, 0, none⟩, ao, cp10, co, ?_, rfl, ?_, ?_, ?_, .inl rfl, HVIS.out, HF10.out⟩
       ·rw [HPATH.out]; simp [memP]; omega
       ·rw [HPATH.out]; rfl
       ·rw [HOPN0.out]; rfl
       ·have := HSR10.out
        rw [HPATH.out, HOPN0.out]
        exact this
      case round =>
       clear i7 hc0 HSR HSR10 HOPN0 HF10 HXX HPATH HVIS HRP0 hg10
       obtain ⟨st1, fr, ap1, ao1, cp1, co1, hq, rfl, rfl, rfl, hsr1, hroot, hvis1, hF1⟩ := hrel
       have HF1w := Lib.hid hF1
       have HROOT := Lib.hid hroot
       have HVIS1 := Lib.hid hvis1
       have i8 : (st1.cnt : Int) ≤ 16384 := by have := hsr1.cnt; omega
       have hszr1 := hF1.size
       simp only [World.alloc, Array.size_push] at hszr1
       clear hF1 hroot hvis1
       rcases hsr1.top with ⟨hm, hp1, rfl⟩ | ⟨pm, s, kk, hm, hsn, hway⟩
       ·have hroot2 : 0 < Tj.ix st1.idx k := by
         rcases HROOT.out with h9 | h9
         ·cases h9
         ·exact h9
        have hopn : st1.opn = [] := hsr1.empty hp1
        have HSR1 := Lib.hid hsr1
        have HRO1 := Lib.hid hroot2
        have HP1 := Lib.hid hp1
        rw [hm, hopn]
        rw [hm, hopn] at hsr1
        have HSRE := Lib.hid hsr1
        clear hq hroot2 hsr1 hm hopn hp1
        go_wp2_with fail
        rw [Exit.noGoto_normal]
        go_wp2_with fail
        go_roundg (l.length - (k + 1))
        case rel => exact ⟨k + 1, st1, ap1, ao1, cp1, co1, rfl, by omega, by go_num, rfl, rfl, rfl, HP1.out, HSRE.out, fun v hv => by
         rcases Nat.lt_or_ge v k with h9 | h9
         ·exact HVIS1.out v h9
         ·have : v = k := by omega
          subst this
          exact HRO1.out, HF1w.out⟩
        case measure => omega
       ·have hml : (memP st1.path fr).length = pm.length + 1 := by rw [hm]; simp
        rw [hml] at hq ⊢
        rw [hml] at hsr1
        have hsl : ap1 = none ∨ ap1 ≠ none := by
         cases ap1 with
         | none => exact .inl rfl
         | some x => exact .inr (by simp)
        obtain ⟨gp, hap⟩ : ∃ gp : Nat, ap1 = some ⟨gp, 0, none⟩ := by
         have := hsr1.rep.rp
         rw [hml] at this
         obtain ⟨gp, cp', hs1, _⟩ := owns_some (ownsB_mono this (Nat.zero_le _)) (by omega)
         exact ⟨gp, by simp only [Value.slice.injEq] at hs1; exact hs1.1⟩
        subst hap
        have HSR2 := Lib.hid hsr1
        have hrp1 : wr.ownsRow (w.heap.size + 1) 127 2 (.slice (some ⟨gp, 0, none⟩) (pm.length + 1) cp1) (pm.length + 1) (flatV (pm ++ [(s, kk)])) := by
         have := hsr1.rep.rp
         rw [hml, hm] at this
         exact this
        have hgp := hrp1.lt gp rfl
        obtain ⟨hgp1, hgp2⟩ := hgp
        have hrowp := own_rowg hrp1
        have t0 := hrowp.cell (flatV_top pm s kk).1
        have t1 := hrowp.cell (flatV_top pm s kk).2
        have zp := hrowp.frozen (pm.length * 2 + 1)
        have hmax : pm.length + 1 ≤ 9223372036854775807 := by
         have := owns_shape (ownsB_mono hrp1 (Nat.zero_le _))
         obtain ⟨_, _, _, h9⟩ := this
         omega
        have i9 : (pm.length : Int) + 1 ≤ 9223372036854775807 := by omega
        have i10 : (0 : Int) ≤ (pm.length : Int) := by omega
        have i11 : (0 : Int) < (pm.length : Int) + 1 := by omega
        have hinc : ((pm.length : Int) + 1 - 1) = (pm.length : Int) := by omega
        have HROWP := Lib.hid hrowp
        have HM := Lib.hid hm
        have HQ := Lib.hid hq
        have HML := Lib.hid hml
        clear hsl hsr1 hrp1 hrowp hm hq hinc hml hmax
        go_upto_if 61 with fail
        go_cut [9, 11] (fun s9 s11 wx => MidRel (Esel l silent) (w.heap.size + 1) l.length gi gl go gp cp1 pm s kk k (2 * c0 st1.idx) (2 * fr.toList.length) (w.alloc (.cells #[.slice a l.length cap] 25)) s9 s11 wx)
        case first =>
         clear t0 t1 zp i9 i10 i11
         rcases hway with ⟨rfl, rfl, hrev, hix0⟩ | ⟨rfl, hk1, r, hpath1, hrev⟩
         ·have hrep2 : TRep (w.heap.size + 1) l.length wr gi gl go (.slice (some ⟨gp, 0, none⟩) (pm.length + 1) cp1) (.slice ao1 st1.opn.length co1) st1.idx st1.low st1.out st1.opn (pm ++ [(s, 0)]) := by
           have := HSR2.out.rep
           rw [HM.out] at this
           exact this
          have hidx := ix_some HSR2.out.inv.li hsn
          have hlow := ix_some HSR2.out.inv.ll hsn
          have c7 := (own_rowg hrep2.ri).cell (ints_get hidx)
          have z7 := (own_rowg hrep2.ri).frozen s
          have c8 := (own_rowg hrep2.rl).cell (ints_get hlow)
          have z8 := (own_rowg hrep2.rl).frozen s
          have hrep3 := (hrep2.setIdx s (st1.cnt + 1 : Int)).setLow s (st1.cnt + 1 : Int)
          have hF3 := (HF1w.out.setCell (p := ⟨gi, s, none⟩) (.inr (by have := (hrep2.ri.lt gi rfl).1; simpa using this)) (.int .i64 (st1.cnt + 1 : Int))).setCell (p := ⟨gl, s, none⟩) (.inr (by have := (hrep2.rl.lt gl rfl).1; simpa using this)) (.int .i64 (st1.cnt + 1 : Int))
          have hw3 : ((wr.setCell ⟨gi, s, none⟩ (.int .i64 (st1.cnt + 1 : Int))).setCell ⟨gl, s, none⟩ (.int .i64 (st1.cnt + 1 : Int))).heap.size = wr.heap.size := by simp [World.setCell]
          have HREP3 := Lib.hid hrep3
          have HF3 := Lib.hid hF3
          have HW3 := Lib.hid hw3
          have HIX0 := Lib.hid hix0
          have HREV := Lib.hid hrev
          have i12 : st1.opn.length ≤ 100000 := by
           have := HSR2.out.inv
           have h9 := opn_len this
           omega
          have i13 : (0 : Int) ≤ (s : Int) := by omega
          have i14 : (s : Int) < (l.length : Int) := by omega
          clear hrep2 hidx hlow hrep3 hF3 hw3 hix0 hrev
          go_wp2_with (first | (at_builtin; refine wpl_app_at rfl (.tmp 72) (.tmp 74) 22 3 (.int .i64 0) 1 8 Tryz.underlying22 infoInt rfl (by decide) rfl (w.heap.size + 1) st1.opn.length (st1.opn.length + 1) (.slice ao1 st1.opn.length co1) (ints (natI st1.opn)) rfl (HREP3.out.rn.alloc _) ⟨wr.heap.size, 0, none⟩ 1 [.int .i64 (s : Int)] rfl rfl (cells_new_at _ (s : Int) _ _ HW3.out) (by simp [Value.oneCell']) rfl (by omega) (by omega) (by simp; omega) ?_) | (at_builtin; fail))
          intro g11 cp11 w11 hown11 hf11 hg11
          have hrep4 := (HREP3.out.alloc (.cells #[.int .i64 (s : Int)] 3)).appOpn (t := s) hown11 hf11 (by rcases hg11 with h9 | h9; exact .inl h9; exact .inr (by simp at h9 ⊢; omega))
          have hmid : Mid (Esel l silent) (w.heap.size + 1) l.length w11 gi gl go (.slice (some ⟨gp, 0, none⟩) (pm.length + 1) cp1) (.slice (some ⟨g11, 0, none⟩) (st1.opn ++ [s]).length cp11) _ s 0 st1.path := HSR2.out.visit (by rw [HREV.out]; exact hrep4)
          have HMID := Lib.hid hmid
          have hbk : ∀ q ∈ (Value.slice ao1 st1.opn.length co1).ownBlock.toList, w.heap.size + 1 ≤ q := fun q hq => (HREP3.out.rn.lt q (by simpa using hq)).1
          have hF11 : Frm [] (w.alloc (.cells #[.slice a l.length cap] 25)) w11 := (HF3.out.alloc (.cells #[.int .i64 (s : Int)] 3)).trans hf11 (fun q hq => .inr (by have := hbk q hq; simpa using this))
          have HF11 := Lib.hid hF11
          have hix : ∀ v, Tj.ix (st1.idx.set s (st1.cnt + 1 : Int)) v = if v = s then (st1.cnt + 1 : Int) else Tj.ix st1.idx v := fun v => Tj.ix_set _ _ _ _ (by rw [HSR2.out.inv.li]; exact hsn)
          have HIX := Lib.hid hix
          have hc0s := c0_set (x := (st1.cnt + 1 : Int)) (ix_some HSR2.out.inv.li hsn |>.trans (by rw [HIX0.out])) (by omega)
          have HC0 := Lib.hid hc0s
          clear hrep4 hmid hbk hF11 hix hown11 hf11 hc0s
          go_wp2_with fail
          go_meet
          refine ⟨{ st1 with idx := st1.idx.set s (st1.cnt + 1 : Int), low := st1.low.set s (st1.cnt + 1 : Int), cnt := st1.cnt + 1, opn := st1.opn ++ [s], path := (s, 0) :: st1.path }, some ⟨g11, 0, none⟩, cp11, st1.path, by simp, by simp, HREV.out, HMID.out, ?_, fun v hv => ?_, ?_, HF11.out⟩
          ·show 0 < Tj.ix (st1.idx.set s (st1.cnt + 1 : Int)) k
           rw [HIX.out]
           split
           ·omega
           ·rename_i h9
            rcases HROOT.out with h8 | h8
            ·exact absurd (by simpa using h8.symm) h9
            ·exact h8
          ·show 0 < Tj.ix (st1.idx.set s (st1.cnt + 1 : Int)) v
           rw [HIX.out]
           split
           ·omega
           ·exact HVIS1.out v hv
          ·show 2 * c0 (st1.idx.set s (st1.cnt + 1 : Int)) + 2 * (some s).toList.length = 2 * c0 st1.idx
           have := HC0.out
           simp
           omega
         ·have hk2 : ((kk : Int) == 0) = false := by rw [beq_eq_false_iff_ne]; omega
          have hmid := HSR2.out.mid hpath1
          have HMID := Lib.hid hmid
          have HREV := Lib.hid hrev
          have hroot3 : 0 < Tj.ix st1.idx k := by
           rcases HROOT.out with h9 | h9
           ·cases h9
           ·exact h9
          have HR3 := Lib.hid hroot3
          clear hmid hrev hpath1 hroot3
          go_wp2_with fail
          go_meet
          exact ⟨st1, ao1, co1, r, rfl, rfl, HREV.out, HMID.out, HR3.out, HVIS1.out, by simp, HF1w.out⟩
        case rest =>
         obtain ⟨st2, ao2, co2, r, rfl, rfl, hrev, hmid, hroot2, hvis2, hc2, hF2⟩ := hcut
         have hG : gk = 2 * c0 st2.idx + pm.length + 1 := by have := HQ.out; omega
         have HG := Lib.hid hG
         have HREV := Lib.hid hrev
         have HMID := Lib.hid hmid
         have HRT := Lib.hid hroot2
         have HVIS2 := Lib.hid hvis2
         have HFW := Lib.hid hF2
         obtain ⟨row, hrow⟩ : ∃ row, l[s]? = some row := ⟨_, List.getElem?_eq_getElem hsn⟩
         have hLr := HL0.out.frm hF2 (by simp)
         have hbr := (HB.out.frm hF2 (by simp)).cell (i := 0) rfl
         have harc := arcs_any w.heap.size a cap l s row silent wc hLr hrow
         have HARC := Lib.hid harc
         have HROW := Lib.hid hrow
         have hlen : (Esel l silent s).length = (sel row silent).length := esel_len hrow
         have HLEN := Lib.hid hlen
         have hkk : kk ≤ (sel row silent).length := by rw [← hlen]; exact hmid.nk
         have hslen : (sel row silent).length ≤ 262144 := Nat.le_trans (sel_len row silent) ((HVL.out.row row (List.mem_of_getElem? hrow)).few)
         obtain ⟨sr, hsr⟩ : ∃ sr, sel row silent = sr := ⟨_, rfl⟩
         have HSEL := Lib.hid hsr
         rw [hsr] at hkk hslen
         have i15 : (sr.length : Int) ≤ 262144 := by omega
         have i16 : (0 : Int) ≤ (s : Int) := by omega
         have i17 : (s : Int) < (l.length : Int) := by omega
         clear hG hrev hmid hroot2 hvis2 hc2 hF2 hrow hLr harc hlen hsr hway t0 t1 zp i9 i10 i11
         go_wp2_with fail
         rw [HSEL.out] at HARC
         refine HARC.out.mono ?_
         rintro e3 w3 ⟨⟨ra, rc, rfl, hrr⟩, hf3⟩
         have hmid3 := HMID.out.nil hf3
         rw [Mid.self hmid3] at hmid3
         have HMID3 := Lib.hid hmid3
         have HRR := Lib.hid hrr
         have HFW3 := Lib.hid (HFW.out.trans hf3 (by simp))
         clear hrr hf3 hbr hmid3
         go_wp2_with fail
         go_loopg [10, 16] (sr.length - kk) (fun q p t wr => p = .slice (some ⟨gp, 0, none⟩) (pm.length + 1) cp1 ∧ L3Rel (Esel l silent) (w.heap.size + 1) l.length gi gl go gp cp1 (pm.length + 1) ao2 co2 st2 s r sr.length (w.alloc (.cells #[.slice a l.length cap] 25)) w3 q wr)
         case atStart => exact ⟨rfl, kk, st2.low, rfl, hkk, HMID3.out, HFW3.out, Frm.refl _ _⟩
         case round =>
          obtain ⟨rfl, j, lw, rfl, hj, hmid4, hF4, hF5⟩ := hrel
          have HF4 := Lib.hid hF4
          have hszr4 := hF4.size
          simp only [World.alloc, Array.size_push] at hszr4
          have HF5 := Lib.hid hF5
          have HM4 := Lib.hid hmid4
          have hrp4 : wr.ownsRow (w.heap.size + 1) 127 2 (.slice (some ⟨gp, 0, none⟩) (pm.length + 1) cp1) (pm.length + 1) (flatV (pm ++ [(s, j)])) := by
           have := hmid4.rep.rp
           rw [HREV.out] at this
           have e9 : (pm ++ [(s, j)]).length = pm.length + 1 := by simp
           rw [e9] at this
           exact this
          have hrow4 := own_rowg hrp4
          have t1 := hrow4.cell (flatV_top pm s j).2
          have zp := hrow4.frozen (pm.length * 2 + 1)
          have hd4 := hmid4.rep.d4 gp rfl
          obtain ⟨dpi, dpl, dpo, dpn⟩ := hd4
          have dip : gi ≠ gp := fun e => dpi e.symm
          have dlp : gl ≠ gp := fun e => dpl e.symm
          have dop : go ≠ gp := fun e => dpo e.symm
          have i18 : (0 : Int) ≤ (j : Int) := by omega
          have hbgp := (hrp4.lt gp rfl).1
          have hbgl := (hmid4.rep.rl.lt gl rfl).1
          have HRP4 := Lib.hid hrp4
          have HREP4 := Lib.hid hmid4.rep
          have hpm2 : pm.length + 1 ≤ 3000000 := by
           have h9 := path_len hmid4.inv
           have h8 := opn_len hmid4.inv
           simp only [List.length_cons] at h9
           have h7 : pm.length = r.length := by rw [← HREV.out]; simp
           have h6 : st2.opn.length ≤ l.length := h8
           have h5 : r.length + 1 ≤ st2.opn.length := h9
           omega
          have i22 : (pm.length : Int) ≤ 4000000 := by omega
          clear hF4 hF5 hrp4 hrow4 dpn
          by_cases hjl : j < sr.length
          ·have i19 : (j : Int) < (sr.length : Int) := by omega
           obtain ⟨⟨e, t⟩, harc⟩ : ∃ y, sr[j]? = some y := ⟨_, List.getElem?_eq_getElem hjl⟩
           obtain ⟨m, rfl, hmn⟩ := sel_ok HVL.out HROW.out (by rw [HSEL.out]; exact harc)
           have hEm : (Esel l silent s)[j]? = some m := by
            have := esel_get HROW.out (silent := silent) (j := j) (by rw [HSEL.out]; exact harc)
            simpa [Esel] using this
           obtain ⟨b1, o1, rfl, hb1, q1, q2⟩ := HRR.out.2.2.2 j e m harc
           have q2' := HF5.out.cell q2 (by simp; omega)
           have hxi := ix_some hmid4.inv.li hmn
           have hxo := ix_some hmid4.inv.lo hmn
           change st2.idx[m]? = some (Tj.ix st2.idx m) at hxi
           change st2.out[m]? = some (Tj.ix st2.out m) at hxo
           have ci := (own_rowg hmid4.rep.ri).cell (ints_get hxi)
           have co := (own_rowg hmid4.rep.ro).cell (ints_get hxo)
           have i20 : (0 : Int) ≤ (m : Int) := by omega
           have i21 : (m : Int) < (l.length : Int) := by omega
           have hpos0 : 0 ≤ Tj.ix st2.idx m := hmid4.inv.pos m hmn
           have HEM := Lib.hid hEm
           have HXI := Lib.hid hxi
           obtain ⟨x, hx⟩ : ∃ x, Tj.ix st2.idx m = x := ⟨_, rfl⟩
           obtain ⟨y, hy⟩ : ∃ y, Tj.ix st2.out m = y := ⟨_, rfl⟩
           rw [hx] at ci hpos0
           rw [hy] at co
           have HX := Lib.hid hx
           have HY := Lib.hid hy
           clear q1 q2 hEm hxi hxo harc hmid4 hx hy
           by_cases hx0 : x = 0
           ·subst hx0
            have hnx := HREP4.out.setNext (j + 1)
            rw [HREV.out, show ((j + 1 : Nat) : Int) = (j : Int) + 1 by omega] at hnx
            have hnr : (wr.setCell ⟨gp, pm.length * 2 + 1, none⟩ (.int .i64 ((j : Int) + 1))).ownsRow (w.heap.size + 1) 127 2 (.slice (some ⟨gp, 0, none⟩) (pm.length + 1) cp1) (pm.length + 1) (flatV (pm ++ [(s, j + 1)])) := by
             have e9 : (pm ++ [(s, j + 1)]).length = pm.length + 1 := by simp
             have := hnx.rp
             rw [e9] at this
             exact this
            have HNR := Lib.hid hnr
            have HNX := Lib.hid hnx
            clear hnx hnr
            go_wp2_with (first | (at_builtin; refine wpl_app_at rfl (.tmp 107) (.tmp 110) 125 127 (.agg #[.int .i64 0, .int .i64 0]) 2 16 Tryz.underlying125 infoVisit rfl (by decide) rfl (w.heap.size + 1) (pm.length + 1) (pm.length + 1 + 1) (.slice (some ⟨gp, 0, none⟩) (pm.length + 1) cp1) (flatV (pm ++ [(s, j + 1)])) rfl (HNR.out.alloc _) ⟨wr.heap.size, 0, none⟩ 1 [.int .i64 (m : Int), .int .i64 0] rfl rfl (cells_new_at2 _ (m : Int) 0 _ _ (by simp [World.setCell])) (by simp [Value.oneCell']) rfl (by omega) (by omega) (by simp; omega) ?_) | (at_builtin; fail))
            intro g12 cp12 w12 hown12 hf12 hg12
            have hrep12 := (HNX.out.alloc (.cells #[.int .i64 (m : Int), .int .i64 0] 127)).appPath2 (t := m) (by simp) hown12 hf12 (by rcases hg12 with h9 | h9; exact .inl h9; exact .inr (by simp at h9 ⊢; omega))
            have hsr12 := HM4.out.push (w' := w12) (vp' := .slice (some ⟨g12, 0, none⟩) (pm.length + 1 + 1) cp12) HEM.out HX.out (by rw [HREV.out]; exact hrep12)
            have HS12 := Lib.hid hsr12
            have F12 : Frm [] (w.alloc (.cells #[.slice a l.length cap] 25)) w12 := by
             have h1 := (HF4.out.setCell (p := ⟨gp, pm.length * 2 + 1, none⟩) (.inr (by simp; omega)) (.int .i64 ((j : Int) + 1))).alloc (.cells #[.int .i64 (m : Int), .int .i64 0] 127)
             refine h1.trans hf12 (fun q hq => .inr ?_)
             simp only [Value.ownBlock, Option.toList_some, List.mem_singleton] at hq
             simp; omega
            have HF12 := Lib.hid F12
            have hml2 : (memP ((s, j + 1) :: r) (some m)).length = pm.length + 1 + 1 := by simp [memP, HREV.out]
            have HML2 := Lib.hid hml2
            clear hrep12 hsr12 F12 hown12 hf12 hml2
            go_wp2_with fail
            go_roundg (2 * c0 st2.idx + pm.length)
            case rel =>
             refine ⟨{ st2 with low := lw, path := (s, j + 1) :: r }, some m, some ⟨g12, 0, none⟩, ao2, cp12, co2, ?_, rfl, ?_, rfl, ?_, .inr HRT.out, HVIS2.out, HF12.out⟩
             ·show 2 * c0 st2.idx + pm.length + 2 * (some m).toList.length = 2 * c0 st2.idx + (memP ((s, j + 1) :: r) (some m)).length
              rw [HML2.out]; simp; omega
             ·show Value.slice (some ⟨g12, 0, none⟩) (pm.length + 1 + 1) cp12 = Value.slice (some ⟨g12, 0, none⟩) (memP ((s, j + 1) :: r) (some m)).length cp12
              rw [HML2.out]
             ·show Srch (Esel l silent) (w.heap.size + 1) l.length w12 gi gl go (.slice (some ⟨g12, 0, none⟩) (memP ((s, j + 1) :: r) (some m)).length cp12) (.slice ao2 st2.opn.length co2) { st2 with low := lw, path := (s, j + 1) :: r } (some m)
              rw [HML2.out]; exact HS12.out
            case measure => have := HG.out; omega
           ·have hxb : (x == 0) = false := by rw [beq_eq_false_iff_ne]; exact hx0
            have hnx := HREP4.out.setNext (j + 1)
            rw [HREV.out, show ((j + 1 : Nat) : Int) = (j : Int) + 1 by omega] at hnx
            have HNX := Lib.hid hnx
            have hset : Frm [gp] wr (wr.setCell ⟨gp, pm.length * 2 + 1, none⟩ (.int .i64 ((j : Int) + 1))) := (Frm.refl _ _).setCell (.inl (by simp)) _
            have HSET := Lib.hid hset
            have hx1 : 0 < x := by omega
            clear hnx hset hx0
            by_cases hy0 : y < 0
            ·have hlw := ix_some HM4.out.inv.ll hsn
             change lw[s]? = some (Tj.ix lw s) at hlw
             have cl := (own_rowg HREP4.out.rl).cell (ints_get hlw)
             have zl := (own_rowg HREP4.out.rl).frozen s
             have CL := Lib.hid cl
             have CI := Lib.hid ci
             have ZL := Lib.hid zl
             clear hlw cl zl
             obtain ⟨u, hu⟩ : ∃ u, Tj.ix lw s = u := ⟨_, rfl⟩
             have HU := Lib.hid hu
             rw [hu] at CL
             clear hu
             have clw := HSET.out.cell CL.out (by simp; omega)
             have ciw := HSET.out.cell CI.out (by simp; omega)
             have zlw := HSET.out.frz CL.out ZL.out (by simp; omega)
             have CLW := Lib.hid clw
             have CIW := Lib.hid ciw
             have ZLW := Lib.hid zlw
             clear clw ciw zlw
             go_wp2_with fail
             refine' wp_region_last (L := 12) _ (fun w' => w'.cell? ⟨gl, s, none⟩ = some (.int .i64 u) ∧ w'.cell? ⟨gi, m, none⟩ = some (.int .i64 x)) (by kernel_rfl) rfl rfl rfl rfl ?he (by kernel_rfl) (by kernel_rfl) ?hS ?h
             case he =>
              simp only [nopOf, List.getElem_toArray, List.getElem_cons_succ, List.getElem_cons_zero, List.setIfInBounds_toArray, List.set_cons_succ, List.set_cons_zero]
              rfl
             case hS => exact ⟨CLW.out, CIW.out⟩
             intro hHeld
             refine qtk 0 (v := ?_) rfl (by kernel_rfl) (fun _ _ _ h => h) (by rfl) (by assumption) ?_ ?_
             rotate_left
             ·(intro w9 hS9; (try dsimp only at hS9); go_split_ands; go_simp; try with_reducible rfl)
             try simp only [Act.put, qgA, qgS, qg0, qsA, qs0, qsS]
             refine qtk 1 (v := ?_) rfl (by kernel_rfl) (fun _ _ _ h => h) (by rfl) (by assumption) ?_ ?_
             rotate_left
             ·(intro w9 hS9; (try dsimp only at hS9); go_split_ands; go_simp; try with_reducible rfl)
             try simp only [Act.put, qgA, qgS, qg0, qsA, qs0, qsS]
             refine qtk 2 (v := ?_) rfl (by kernel_rfl) (fun _ _ _ h => h) (by rfl) (by assumption) ?_ ?_
             rotate_left
             ·(intro w9 hS9; (try dsimp only at hS9); go_split_ands; go_simp; try with_reducible rfl)
             try simp only [Act.put, qgA, qgS, qg0, qsA, qs0, qsS]
             refine qtk 3 (v := ?_) rfl (by kernel_rfl) (fun _ _ _ h => h) (by rfl) (by assumption) ?_ ?_
             rotate_left
             ·(intro w9 hS9; (try dsimp only at hS9); go_split_ands; go_simp; try with_reducible rfl)
             try simp only [Act.put, qgA, qgS, qg0, qsA, qs0, qsS]
             refine qtk 4 (v := ?_) rfl (by kernel_rfl) (fun _ _ _ h => h) (by rfl) (by assumption) ?_ ?_
             rotate_left
             ·(intro w9 hS9; (try dsimp only at hS9); go_split_ands; go_simp; try with_reducible rfl)
             try simp only [Act.put, qgA, qgS, qg0, qsA, qs0, qsS]
             refine qtk 5 (v := ?_) rfl (by kernel_rfl) (fun _ _ _ h => h) (by rfl) (by assumption) ?_ ?_
             rotate_left
             ·(intro w9 hS9; (try dsimp only at hS9); go_split_ands; go_simp; try with_reducible rfl)
             try simp only [Act.put, qgA, qgS, qg0, qsA, qs0, qsS]
             refine qtk 6 (v := ?_) rfl (by kernel_rfl) (fun _ _ _ h => h) (by rfl) (by assumption) ?_ ?_
             rotate_left
             ·(intro w9 hS9; (try dsimp only at hS9); go_split_ands; go_simp; try with_reducible rfl)
             try simp only [Act.put, qgA, qgS, qg0, qsA, qs0, qsS]
             refine qtk 7 (v := ?_) rfl (by kernel_rfl) (fun _ _ _ h => h) (by rfl) (by assumption) ?_ ?_
             rotate_left
             ·(intro w9 hS9; (try dsimp only at hS9); go_split_ands; go_simp; try with_reducible rfl)
             try simp only [Act.put, qgA, qgS, qg0, qsA, qs0, qsS]
             refine qtk 8 (v := ?_) rfl (by kernel_rfl) (fun _ _ _ h => h) (by rfl) (by assumption) ?_ ?_
             rotate_left
             ·(intro w9 hS9; (try dsimp only at hS9); go_split_ands; go_simp; try with_reducible rfl)
             try simp only [Act.put, qgA, qgS, qg0, qsA, qs0, qsS]
             refine qtk 9 (v := ?_) rfl (by kernel_rfl) (fun _ _ _ h => h) (by rfl) (by assumption) ?_ ?_
             rotate_left
             ·(intro w9 hS9; (try dsimp only at hS9); go_split_ands; go_simp; try with_reducible rfl)
             try simp only [Act.put, qgA, qgS, qg0, qsA, qs0, qsS]
             refine qtk 10 (v := ?_) rfl (by kernel_rfl) (fun _ _ _ h => h) (by rfl) (by assumption) ?_ ?_
             rotate_left
             ·(intro w9 hS9; (try dsimp only at hS9); go_split_ands; go_simp; try with_reducible rfl)
             try simp only [Act.put, qgA, qgS, qg0, qsA, qs0, qsS]
             refine qtk 11 (v := ?_) rfl (by kernel_rfl) (fun _ _ _ h => h) (by rfl) (by assumption) ?_ ?_
             rotate_left
             ·(intro w9 hS9; (try dsimp only at hS9); go_split_ands; go_simp; try with_reducible rfl)
             try simp only [Act.put, qgA, qgS, qg0, qsA, qs0, qsS]
             refine qtk 12 (v := ?_) rfl (by kernel_rfl) (fun _ _ _ h => h) (by rfl) (by assumption) ?_ ?_
             rotate_left
             ·(intro w9 hS9; (try dsimp only at hS9); go_split_ands; go_simp; try with_reducible rfl)
             try simp only [Act.put, qgA, qgS, qg0, qsA, qs0, qsS]
             refine wpAnyH_done (by kernel_rfl) ?_ _
             refine Qt.last rfl rfl ?_
             simp only [List.getElem_toArray, List.getElem_cons_succ, List.getElem_cons_zero]
             have zlw := ZLW.out
             have clw := CLW.out
             go_simp
             go_wp2_with fail
             go_roundg (sr.length - (j + 1))
             case rel =>
              have hmid6 := HM4.out.least (w' := ((wr.setCell ⟨gp, pm.length * 2 + 1, none⟩ (.int .i64 ((j : Int) + 1))).setCell ⟨gl, s, none⟩ (.int .i64 (min u x))).drew) HEM.out (by show 0 < Tj.ix st2.idx m; rw [HX.out]; exact hx1) (by show Tj.ix st2.out m < 0; rw [HY.out]; exact hy0) (min u x) (by show min u x = min (Tj.ix lw s) (Tj.ix st2.idx m); rw [HU.out, HX.out]) (by rw [HREV.out]; exact (HNX.out.setLow s (min u x)).drew)
              exact ⟨rfl, j + 1, lw.set s (min u x), rfl, hjl, hmid6, ((HF4.out.setCell (p := ⟨gp, pm.length * 2 + 1, none⟩) (.inr (by simp; omega)) (.int .i64 ((j : Int) + 1))).setCell (p := ⟨gl, s, none⟩) (.inr (by simp; omega)) (.int .i64 (min u x))).drew, ((HF5.out.trans (HSET.out.mono (fq := [gp, gl]) (by simp)) (by simp)).setCell (p := ⟨gl, s, none⟩) (.inl (by simp)) (.int .i64 (min u x))).drew⟩
             case measure => omega
            ·have hy1 : 0 ≤ y := by omega
             have hmid5 := HM4.out.skip (w' := wr.setCell ⟨gp, pm.length * 2 + 1, none⟩ (.int .i64 ((j : Int) + 1))) HEM.out (by show 0 ≤ Tj.ix st2.out m; rw [HY.out]; exact hy1) (by rw [HREV.out]; exact HNX.out)
             have HM5 := Lib.hid hmid5
             have hF6 : Frm [] (w.alloc (.cells #[.slice a l.length cap] 25)) (wr.setCell ⟨gp, pm.length * 2 + 1, none⟩ (.int .i64 ((j : Int) + 1))) := HF4.out.setCell (p := ⟨gp, pm.length * 2 + 1, none⟩) (.inr (by simp; omega)) _
             have hF7 : Frm [gp, gl] w3 (wr.setCell ⟨gp, pm.length * 2 + 1, none⟩ (.int .i64 ((j : Int) + 1))) := HF5.out.trans (HSET.out.mono (fq := [gp, gl]) (by simp)) (by simp)
             have HF6 := Lib.hid hF6
             have HF7 := Lib.hid hF7
             clear hmid5 hy0 hF6 hF7
             go_wp2_with fail
             go_roundg (sr.length - (j + 1))
             case rel => exact ⟨rfl, j + 1, lw, rfl, hjl, HM5.out, HF6.out, HF7.out⟩
             case measure => omega
          ·have hjn : j = sr.length := by omega
           subst hjn
           have hkE : (Esel l silent s).length ≤ sr.length := by rw [HLEN.out, HSEL.out]; exact Nat.le_refl _
           have hlw := ix_some hmid4.inv.ll hsn
           change lw[s]? = some (Tj.ix lw s) at hlw
           have hid := ix_some hmid4.inv.li hsn
           change st2.idx[s]? = some (Tj.ix st2.idx s) at hid
           obtain ⟨u, hu⟩ : ∃ u, Tj.ix lw s = u := ⟨_, rfl⟩
           obtain ⟨x, hx⟩ : ∃ x, Tj.ix st2.idx s = x := ⟨_, rfl⟩
           rw [hu] at hlw
           rw [hx] at hid
           have cl := (own_rowg HREP4.out.rl).cell (ints_get hlw)
           have ci := (own_rowg HREP4.out.ri).cell (ints_get hid)
           have hcp1 : pm.length + 1 ≤ cp1 := (rd_of_owns HRP4.out (Nat.le_refl _)).le
           have i23 : (pm.length : Int) + 1 ≤ (cp1 : Int) := by omega
           have i24 : (pm.length : Int) ≤ (cp1 : Int) := by omega
           have CL := Lib.hid cl
           have CI := Lib.hid ci
           have HU := Lib.hid hu
           have HX := Lib.hid hx
           have HKE := Lib.hid hkE
           have T1 := Lib.hid t1
           clear hlw hid hu hx hkE hcp1 i23 t1 zp
           by_cases hux : u = x
           ·subst hux
            have hb : (u == u) = true := by simp
            obtain ⟨p, hp⟩ : ∃ p, st2.opn[p]? = some s := by
             obtain ⟨p, hp1, hp2⟩ := List.getElem_of_mem HM4.out.sopn
             exact ⟨p, by rw [← hp2]; exact List.getElem?_eq_getElem hp1⟩
            have hpl : p < st2.opn.length := (List.getElem?_eq_some_iff.1 hp).1
            obtain ⟨g2, hao⟩ : ∃ g2 : Nat, ao2 = some ⟨g2, 0, none⟩ := by
             obtain ⟨g2, cp', hs1, _⟩ := owns_some (ownsB_mono HREP4.out.rn (Nat.zero_le _)) (show 0 < st2.opn.length by omega)
             exact ⟨g2, by simp only [Value.slice.injEq] at hs1; exact hs1.1⟩
            subst hao
            have hnn := HM4.out.inv
            have hol : st2.opn.length ≤ l.length := opn_len (st := { st2 with low := lw, path := (s, sr.length) :: r }) hnn
            have hasc : st2.opn.Pairwise (fun a b => Tj.ix st2.idx a < Tj.ix st2.idx b) := hnn.asc
            have hopn : ∀ v ∈ st2.opn, v < l.length := fun v hv => ((hnn.opn v).1 hv).1
            have hcl := fun nq => close_any (w.heap.size + 1) (w.heap.size + 1) g2 co2 go st2.opn.length l.length p (natI st2.opn) st2.out (s : Int) (wr.drewN nq) (owns_drewN HREP4.out.rn nq) (natI_len _) (owns_drewN HREP4.out.ro nq) (fun e => (HREP4.out.d5 g2 rfl).2.2 e.symm) (natI_get hp) (fun i hi hc => by
             simp only [natI, List.getElem?_map, Option.map_eq_some_iff] at hc
             obtain ⟨v, hv1, hv2⟩ := hc
             have hvs : v = s := by omega
             subst hvs
             obtain ⟨hi1, hi2⟩ := List.getElem?_eq_some_iff.1 hv1
             obtain ⟨hp1, hp2⟩ := List.getElem?_eq_some_iff.1 hp
             have := List.pairwise_iff_getElem.1 hasc p i hp1 hi1 hi
             rw [hi2, hp2] at this
             omega) (fun i x hi hc => by
             simp only [natI, List.getElem?_map, Option.map_eq_some_iff] at hc
             obtain ⟨v, hv1, hv2⟩ := hc
             have := hopn v (List.mem_of_getElem? hv1)
             omega) (by omega)
            have HCL := Lib.hid hcl
            have HP := Lib.hid hp
            have t1 := T1.out
            clear hcl hp hasc hopn hnn
            go_wp2_with fail
            go_quiet (fail)
            go_wp2_with fail
            refine (HCL.out _).mono ?_
            rintro e6 w6 ⟨rfl, hout6, hf6⟩
            have hrep6 := (HREP4.out.drewN _).close (p := p) (by omega) hout6 hf6
            have htk : (st2.opn.take p).length = p := by rw [List.length_take]; omega
            rw [htk] at hrep6
            have HREP6 := Lib.hid hrep6
            have HF6 := Lib.hid hf6
            have HTK := Lib.hid htk
            clear hrep6 hout6 htk hf6
            have F6 : Frm [] (w.alloc (.cells #[.slice a l.length cap] 25)) w6 := (HF4.out.drewN nq).trans HF6.out (fun q hq => .inr (by
             have := (HREP4.out.ro.lt go rfl).1
             simp only [List.mem_singleton] at hq
             subst hq
             simpa using this))
            have HFF6 := Lib.hid F6
            have hlow6 : Tj.ix lw s = Tj.ix st2.idx s := by rw [HU.out, HX.out]
            have HLOW6 := Lib.hid hlow6
            have hsz6 := F6.size
            simp only [World.alloc, Array.size_push] at hsz6
            clear F6 hlow6
            cases r with
            | nil =>
             have hp0 : pm.length = 0 := by rw [← HREV.out]; rfl
             have HP0 := Lib.hid hp0
             have hrep7 := HREP6.out.popPath2 (m := pm.length) (by rw [HREV.out])
             rw [HP0.out] at hrep7
             have hsr7 := HM4.out.close (w' := w6) (vp' := .slice (some ⟨gp, 0, none⟩) 0 cp1) (vo' := .slice (some ⟨g2, 0, none⟩) p co2) HKE.out HLOW6.out HP.out hrep7
             have HSR7 := Lib.hid hsr7
             clear hp0 hrep7 hsr7 i22 i24
             rw [HP0.out]
             go_wp2_with fail
             go_roundg (2 * c0 st2.idx)
             case rel =>
              refine ⟨{ st2 with low := lw, out := setAll st2.out ((natI st2.opn).drop p) (Lib.minOf ((natI st2.opn).drop p)), opn := st2.opn.take p, path := [] }, none, some ⟨gp, 0, none⟩, some ⟨g2, 0, none⟩, cp1, co2, by simp [memP], rfl, by simp [memP], ?_, ?_, .inr HRT.out, HVIS2.out, HFF6.out⟩
              ·show Value.slice (some ⟨g2, 0, none⟩) p co2 = Value.slice (some ⟨g2, 0, none⟩) (st2.opn.take p).length co2
               rw [HTK.out]
              ·show Srch (Esel l silent) (w.heap.size + 1) l.length w6 gi gl go (.slice (some ⟨gp, 0, none⟩) 0 cp1) (.slice (some ⟨g2, 0, none⟩) (st2.opn.take p).length co2) _ none
               rw [HTK.out]
               exact HSR7.out
             case measure => have := HG.out; omega
            | cons qq r1 =>
             obtain ⟨u1, j1⟩ := qq
             have hu1 : u1 < l.length := ((HM4.out.inv.opn u1).1 (HM4.out.inv.path.opn (u1, j1) (by simp))).1
             have hlw1 := ix_some HM4.out.inv.ll hu1
             change lw[u1]? = some (Tj.ix lw u1) at hlw1
             have hmin := HM4.out.inv.close_low (s := s) (k := sr.length) (u := u1) (j := j1) (r := r1) rfl HLOW6.out
             change min (Tj.ix lw u1) (Tj.ix lw s) = Tj.ix lw u1 at hmin
             have hsame := set_same (l := lw) HM4.out.inv.ll hu1
             obtain ⟨v1, hv1⟩ : ∃ v1, Tj.ix lw u1 = v1 := ⟨_, rfl⟩
             rw [hv1] at hlw1
             rw [hv1, HU.out] at hmin
             rw [hv1] at hsame
             have hlweq : lw.set u1 (min v1 u) = lw := by rw [hmin]; exact hsame
             have cl1 := HF6.out.cell (w := wr.drewN nq) (p := ⟨gl, u1, none⟩) (v := .int .i64 v1) ((own_rowg HREP4.out.rl).cell (ints_get hlw1)) (by simp; omega)
             have zl1 := HF6.out.frz (w := wr.drewN nq) (p := ⟨gl, u1, none⟩) (v := .int .i64 v1) ((own_rowg HREP4.out.rl).cell (ints_get hlw1)) ((own_rowg HREP4.out.rl).frozen u1) (by simp; omega)
             have cl6 := HF6.out.cell (w := wr.drewN nq) (p := ⟨gl, s, none⟩) (v := .int .i64 u) CL.out (by simp; omega)
             obtain ⟨q, hq⟩ : ∃ q, r1.length = q := ⟨_, rfl⟩
             have hpq : pm.length = q + 1 := by rw [← HREV.out, ← hq]; simp
             have ct := HF6.out.cell (w := wr.drewN nq) (p := ⟨gp, q * 2, none⟩) (v := .int .i64 (u1 : Int)) ((own_rowg HRP4.out).cell (i := q * 2) (v := .int .i64 (u1 : Int)) (by
              have h9 := (flatV_top r1.reverse u1 j1).1
              rw [List.length_reverse, hq] at h9
              rw [← HREV.out, flatV_app, List.getElem?_append_left (by rw [flatV_len]; simp; omega)]
              simpa using h9)) (by simp; omega)
             have CL1 := Lib.hid cl1
             have ZL1 := Lib.hid zl1
             have CL6 := Lib.hid cl6
             have HPQ := Lib.hid hpq
             have HLWEQ := Lib.hid hlweq
             have i25 : (0 : Int) ≤ (u1 : Int) := by omega
             have i26 : (u1 : Int) < (l.length : Int) := by omega
             have i27 : (q : Int) ≤ 4000000 := by omega
             have i28 : (q : Int) + 1 ≤ (cp1 : Int) := by omega
             have i29 : (0 : Int) ≤ (q : Int) := by omega
             clear hlw1 hv1 hpq zl1 hq i24 i22 hmin hsame hlweq
             rw [HPQ.out]
             go_wp2_with fail
             refine' wp_region_last (L := 12) _ (fun w' => w'.cell? ⟨gl, u1, none⟩ = some (.int .i64 v1) ∧ w'.cell? ⟨gl, s, none⟩ = some (.int .i64 u)) (by kernel_rfl) rfl rfl rfl rfl ?he (by kernel_rfl) (by kernel_rfl) ?hS ?h
             case he =>
              simp only [nopOf, List.getElem_toArray, List.getElem_cons_succ, List.getElem_cons_zero, List.setIfInBounds_toArray, List.set_cons_succ, List.set_cons_zero]
              rfl
             case hS => exact ⟨CL1.out, CL6.out⟩
             intro hHeld
             refine qtk 0 (v := ?_) rfl (by kernel_rfl) (fun _ _ _ h => h) (by rfl) (by assumption) ?_ ?_
             rotate_left
             ·(intro w9 hS9; (try dsimp only at hS9); go_split_ands; go_simp; try with_reducible rfl)
             try simp only [Act.put, qgA, qgS, qg0, qsA, qs0, qsS]
             refine qtk 1 (v := ?_) rfl (by kernel_rfl) (fun _ _ _ h => h) (by rfl) (by assumption) ?_ ?_
             rotate_left
             ·(intro w9 hS9; (try dsimp only at hS9); go_split_ands; go_simp; try with_reducible rfl)
             try simp only [Act.put, qgA, qgS, qg0, qsA, qs0, qsS]
             refine qtk 2 (v := ?_) rfl (by kernel_rfl) (fun _ _ _ h => h) (by rfl) (by assumption) ?_ ?_
             rotate_left
             ·(intro w9 hS9; (try dsimp only at hS9); go_split_ands; go_simp; try with_reducible rfl)
             try simp only [Act.put, qgA, qgS, qg0, qsA, qs0, qsS]
             refine qtk 3 (v := ?_) rfl (by kernel_rfl) (fun _ _ _ h => h) (by rfl) (by assumption) ?_ ?_
             rotate_left
             ·(intro w9 hS9; (try dsimp only at hS9); go_split_ands; go_simp; try with_reducible rfl)
             try simp only [Act.put, qgA, qgS, qg0, qsA, qs0, qsS]
             refine qtk 4 (v := ?_) rfl (by kernel_rfl) (fun _ _ _ h => h) (by rfl) (by assumption) ?_ ?_
             rotate_left
             ·(intro w9 hS9; (try dsimp only at hS9); go_split_ands; go_simp; try with_reducible rfl)
             try simp only [Act.put, qgA, qgS, qg0, qsA, qs0, qsS]
             refine qtk 5 (v := ?_) rfl (by kernel_rfl) (fun _ _ _ h => h) (by rfl) (by assumption) ?_ ?_
             rotate_left
             ·(intro w9 hS9; (try dsimp only at hS9); go_split_ands; go_simp; try with_reducible rfl)
             try simp only [Act.put, qgA, qgS, qg0, qsA, qs0, qsS]
             refine qtk 6 (v := ?_) rfl (by kernel_rfl) (fun _ _ _ h => h) (by rfl) (by assumption) ?_ ?_
             rotate_left
             ·(intro w9 hS9; (try dsimp only at hS9); go_split_ands; go_simp; try with_reducible rfl)
             try simp only [Act.put, qgA, qgS, qg0, qsA, qs0, qsS]
             refine qtk 7 (v := ?_) rfl (by kernel_rfl) (fun _ _ _ h => h) (by rfl) (by assumption) ?_ ?_
             rotate_left
             ·(intro w9 hS9; (try dsimp only at hS9); go_split_ands; go_simp; try with_reducible rfl)
             try simp only [Act.put, qgA, qgS, qg0, qsA, qs0, qsS]
             refine qtk 8 (v := ?_) rfl (by kernel_rfl) (fun _ _ _ h => h) (by rfl) (by assumption) ?_ ?_
             rotate_left
             ·(intro w9 hS9; (try dsimp only at hS9); go_split_ands; go_simp; try with_reducible rfl)
             try simp only [Act.put, qgA, qgS, qg0, qsA, qs0, qsS]
             refine qtk 9 (v := ?_) rfl (by kernel_rfl) (fun _ _ _ h => h) (by rfl) (by assumption) ?_ ?_
             rotate_left
             ·(intro w9 hS9; (try dsimp only at hS9); go_split_ands; go_simp; try with_reducible rfl)
             try simp only [Act.put, qgA, qgS, qg0, qsA, qs0, qsS]
             refine qtk 10 (v := ?_) rfl (by kernel_rfl) (fun _ _ _ h => h) (by rfl) (by assumption) ?_ ?_
             rotate_left
             ·(intro w9 hS9; (try dsimp only at hS9); go_split_ands; go_simp; try with_reducible rfl)
             try simp only [Act.put, qgA, qgS, qg0, qsA, qs0, qsS]
             refine qtk 11 (v := ?_) rfl (by kernel_rfl) (fun _ _ _ h => h) (by rfl) (by assumption) ?_ ?_
             rotate_left
             ·(intro w9 hS9; (try dsimp only at hS9); go_split_ands; go_simp; try with_reducible rfl)
             try simp only [Act.put, qgA, qgS, qg0, qsA, qs0, qsS]
             refine qtk 12 (v := ?_) rfl (by kernel_rfl) (fun _ _ _ h => h) (by rfl) (by assumption) ?_ ?_
             rotate_left
             ·(intro w9 hS9; (try dsimp only at hS9); go_split_ands; go_simp; try with_reducible rfl)
             try simp only [Act.put, qgA, qgS, qg0, qsA, qs0, qsS]
             refine wpAnyH_done (by kernel_rfl) ?_ _
             refine Qt.last rfl rfl ?_
             simp only [List.getElem_toArray, List.getElem_cons_succ, List.getElem_cons_zero]
             have zl1 := ZL1.out
             have cl1 := CL1.out
             go_simp
             go_wp2_with fail
             go_roundg (2 * c0 st2.idx + (q + 1))
             case rel =>
              have hmlq : (memP ((u1, j1) :: r1) none).length = q + 1 := by
               have h9 := HPQ.out
               rw [← HREV.out] at h9
               simpa [memP] using h9
              refine ⟨{ st2 with low := lw, out := setAll st2.out ((natI st2.opn).drop p) (Lib.minOf ((natI st2.opn).drop p)), opn := st2.opn.take p, path := (u1, j1) :: r1 }, none, some ⟨gp, 0, none⟩, some ⟨g2, 0, none⟩, cp1, co2, ?_, rfl, ?_, ?_, ?_, .inr HRT.out, HVIS2.out, (HFF6.out.setCell (p := ⟨gl, u1, none⟩) (.inr (by simp; omega)) (.int .i64 (min v1 u))).drew⟩
              ·show 2 * c0 st2.idx + (q + 1) + 2 * (none : Option Nat).toList.length = 2 * c0 st2.idx + (memP ((u1, j1) :: r1) none).length
               rw [hmlq]; simp
              ·show Value.slice (some ⟨gp, 0, none⟩) (q + 1) cp1 = Value.slice (some ⟨gp, 0, none⟩) (memP ((u1, j1) :: r1) none).length cp1
               rw [hmlq]
              ·show Value.slice (some ⟨g2, 0, none⟩) p co2 = Value.slice (some ⟨g2, 0, none⟩) (st2.opn.take p).length co2
               rw [HTK.out]
              ·show Srch (Esel l silent) (w.heap.size + 1) l.length _ gi gl go (.slice (some ⟨gp, 0, none⟩) (memP ((u1, j1) :: r1) none).length cp1) (.slice (some ⟨g2, 0, none⟩) (st2.opn.take p).length co2) _ none
               rw [hmlq, HTK.out]
               refine HM4.out.close (vp' := .slice (some ⟨gp, 0, none⟩) (q + 1) cp1) (vo' := .slice (some ⟨g2, 0, none⟩) p co2) HKE.out HLOW6.out HP.out ?_
               have h8 := ((HREP6.out.setLow u1 (min v1 u)).drew).popPath2 (m := pm.length) (by rw [HREV.out])
               rw [HPQ.out, HLWEQ.out] at h8
               exact h8
             case measure => have := HG.out; have := HPQ.out; omega
           ·have hb : (u == x) = false := by simpa using hux
            obtain ⟨u1, j1, r1, hr1, hinv⟩ := HM4.out.inv.pop (s := s) (k := sr.length) (r := r) rfl HKE.out (by show Tj.ix lw s ≠ Tj.ix st2.idx s; rw [HU.out, HX.out]; exact hux)
            subst hr1
            have HINV := Lib.hid hinv
            have hu1 : u1 < l.length := ((HM4.out.inv.opn u1).1 (HM4.out.inv.path.opn (u1, j1) (by simp))).1
            have hlw1 := ix_some HM4.out.inv.ll hu1
            change lw[u1]? = some (Tj.ix lw u1) at hlw1
            obtain ⟨v1, hv1⟩ : ∃ v1, Tj.ix lw u1 = v1 := ⟨_, rfl⟩
            rw [hv1] at hlw1
            have cl1 := (own_rowg HREP4.out.rl).cell (ints_get hlw1)
            have zl1 := (own_rowg HREP4.out.rl).frozen u1
            obtain ⟨q, hq⟩ : ∃ q, r1.length = q := ⟨_, rfl⟩
            have hpq : pm.length = q + 1 := by rw [← HREV.out, ← hq]; simp
            have ct := (own_rowg HRP4.out).cell (i := q * 2) (v := .int .i64 (u1 : Int)) (by
             have h9 := (flatV_top r1.reverse u1 j1).1
             rw [List.length_reverse, hq] at h9
             rw [← HREV.out, flatV_app, List.getElem?_append_left (by rw [flatV_len]; simp; omega)]
             simpa using h9)
            have CL1 := Lib.hid cl1
            have ZL1 := Lib.hid zl1
            have HV1 := Lib.hid hv1
            have HPQ := Lib.hid hpq
            have CT := Lib.hid ct
            have i25 : (0 : Int) ≤ (u1 : Int) := by omega
            have i26 : (u1 : Int) < (l.length : Int) := by omega
            have i27 : (q : Int) ≤ 4000000 := by omega
            have i28 : (q : Int) + 1 ≤ (cp1 : Int) := by omega
            have i29 : (0 : Int) ≤ (q : Int) := by omega
            clear hinv hlw1 hv1 hpq ct zl1 cl1 hq hux i24 i22
            have t1 := T1.out
            rw [HPQ.out] at t1 ⊢
            go_wp2_with fail
            go_quiet (fail)
            have cl1' := CL1.out
            have ct' := CT.out
            go_wp2_with fail
            refine' wp_region_last (L := 12) _ (fun w' => w'.cell? ⟨gl, u1, none⟩ = some (.int .i64 v1) ∧ w'.cell? ⟨gl, s, none⟩ = some (.int .i64 u)) (by kernel_rfl) rfl rfl rfl rfl ?he (by kernel_rfl) (by kernel_rfl) ?hS ?h
            case he =>
             simp only [nopOf, List.getElem_toArray, List.getElem_cons_succ, List.getElem_cons_zero, List.setIfInBounds_toArray, List.set_cons_succ, List.set_cons_zero]
             rfl
            case hS => exact ⟨CL1.out, CL.out⟩
            intro hHeld
            refine qtk 0 (v := ?_) rfl (by kernel_rfl) (fun _ _ _ h => h) (by rfl) (by assumption) ?_ ?_
            rotate_left
            ·(intro w9 hS9; (try dsimp only at hS9); go_split_ands; go_simp; try with_reducible rfl)
            try simp only [Act.put, qgA, qgS, qg0, qsA, qs0, qsS]
            refine qtk 1 (v := ?_) rfl (by kernel_rfl) (fun _ _ _ h => h) (by rfl) (by assumption) ?_ ?_
            rotate_left
            ·(intro w9 hS9; (try dsimp only at hS9); go_split_ands; go_simp; try with_reducible rfl)
            try simp only [Act.put, qgA, qgS, qg0, qsA, qs0, qsS]
            refine qtk 2 (v := ?_) rfl (by kernel_rfl) (fun _ _ _ h => h) (by rfl) (by assumption) ?_ ?_
            rotate_left
            ·(intro w9 hS9; (try dsimp only at hS9); go_split_ands; go_simp; try with_reducible rfl)
            try simp only [Act.put, qgA, qgS, qg0, qsA, qs0, qsS]
            refine qtk 3 (v := ?_) rfl (by kernel_rfl) (fun _ _ _ h => h) (by rfl) (by assumption) ?_ ?_
            rotate_left
            ·(intro w9 hS9; (try dsimp only at hS9); go_split_ands; go_simp; try with_reducible rfl)
            try simp only [Act.put, qgA, qgS, qg0, qsA, qs0, qsS]
            refine qtk 4 (v := ?_) rfl (by kernel_rfl) (fun _ _ _ h => h) (by rfl) (by assumption) ?_ ?_
            rotate_left
            ·(intro w9 hS9; (try dsimp only at hS9); go_split_ands; go_simp; try with_reducible rfl)
            try simp only [Act.put, qgA, qgS, qg0, qsA, qs0, qsS]
            refine qtk 5 (v := ?_) rfl (by kernel_rfl) (fun _ _ _ h => h) (by rfl) (by assumption) ?_ ?_
            rotate_left
            ·(intro w9 hS9; (try dsimp only at hS9); go_split_ands; go_simp; try with_reducible rfl)
            try simp only [Act.put, qgA, qgS, qg0, qsA, qs0, qsS]
            refine qtk 6 (v := ?_) rfl (by kernel_rfl) (fun _ _ _ h => h) (by rfl) (by assumption) ?_ ?_
            rotate_left
            ·(intro w9 hS9; (try dsimp only at hS9); go_split_ands; go_simp; try with_reducible rfl)
            try simp only [Act.put, qgA, qgS, qg0, qsA, qs0, qsS]
            refine qtk 7 (v := ?_) rfl (by kernel_rfl) (fun _ _ _ h => h) (by rfl) (by assumption) ?_ ?_
            rotate_left
            ·(intro w9 hS9; (try dsimp only at hS9); go_split_ands; go_simp; try with_reducible rfl)
            try simp only [Act.put, qgA, qgS, qg0, qsA, qs0, qsS]
            refine qtk 8 (v := ?_) rfl (by kernel_rfl) (fun _ _ _ h => h) (by rfl) (by assumption) ?_ ?_
            rotate_left
            ·(intro w9 hS9; (try dsimp only at hS9); go_split_ands; go_simp; try with_reducible rfl)
            try simp only [Act.put, qgA, qgS, qg0, qsA, qs0, qsS]
            refine qtk 9 (v := ?_) rfl (by kernel_rfl) (fun _ _ _ h => h) (by rfl) (by assumption) ?_ ?_
            rotate_left
            ·(intro w9 hS9; (try dsimp only at hS9); go_split_ands; go_simp; try with_reducible rfl)
            try simp only [Act.put, qgA, qgS, qg0, qsA, qs0, qsS]
            refine qtk 10 (v := ?_) rfl (by kernel_rfl) (fun _ _ _ h => h) (by rfl) (by assumption) ?_ ?_
            rotate_left
            ·(intro w9 hS9; (try dsimp only at hS9); go_split_ands; go_simp; try with_reducible rfl)
            try simp only [Act.put, qgA, qgS, qg0, qsA, qs0, qsS]
            refine qtk 11 (v := ?_) rfl (by kernel_rfl) (fun _ _ _ h => h) (by rfl) (by assumption) ?_ ?_
            rotate_left
            ·(intro w9 hS9; (try dsimp only at hS9); go_split_ands; go_simp; try with_reducible rfl)
            try simp only [Act.put, qgA, qgS, qg0, qsA, qs0, qsS]
            refine qtk 12 (v := ?_) rfl (by kernel_rfl) (fun _ _ _ h => h) (by rfl) (by assumption) ?_ ?_
            rotate_left
            ·(intro w9 hS9; (try dsimp only at hS9); go_split_ands; go_simp; try with_reducible rfl)
            try simp only [Act.put, qgA, qgS, qg0, qsA, qs0, qsS]
            refine wpAnyH_done (by kernel_rfl) ?_ _
            refine Qt.last rfl rfl ?_
            simp only [List.getElem_toArray, List.getElem_cons_succ, List.getElem_cons_zero]
            have zl1 := ZL1.out
            have cl1 := CL1.out
            go_simp
            go_wp2_with fail
            go_roundg (2 * c0 st2.idx + (q + 1))
            case rel =>
             have hmlq : (memP ((u1, j1) :: r1) none).length = q + 1 := by
              have h9 := HPQ.out
              rw [← HREV.out] at h9
              simpa [memP] using h9
             refine ⟨{ st2 with low := lw.set u1 (min v1 u), path := (u1, j1) :: r1 }, none, some ⟨gp, 0, none⟩, ao2, cp1, co2, ?_, rfl, ?_, rfl, ?_, .inr HRT.out, HVIS2.out, (HF4.out.drewN (nq + 1)).setCell (p := ⟨gl, u1, none⟩) (.inr (by simp; omega)) _⟩
             ·show 2 * c0 st2.idx + (q + 1) + 2 * (none : Option Nat).toList.length = 2 * c0 st2.idx + (memP ((u1, j1) :: r1) none).length
              rw [hmlq]; simp
             ·show Value.slice (some ⟨gp, 0, none⟩) (q + 1) cp1 = Value.slice (some ⟨gp, 0, none⟩) (memP ((u1, j1) :: r1) none).length cp1
              rw [hmlq]
             ·show Srch (Esel l silent) (w.heap.size + 1) l.length _ gi gl go (.slice (some ⟨gp, 0, none⟩) (memP ((u1, j1) :: r1) none).length cp1) (.slice ao2 st2.opn.length co2) { st2 with low := lw.set u1 (min v1 u), path := (u1, j1) :: r1 } none
              rw [hmlq]
              refine ⟨?_, HINV.out (min v1 u) (by show min v1 u = min (Tj.ix lw u1) (Tj.ix lw s); rw [HV1.out, HU.out]), HM4.out.nx, HM4.out.cnt⟩
              have h8 := ((HREP4.out.drewN (nq + 1)).setLow u1 (min v1 u)).popPath2 (m := pm.length) (by rw [HREV.out])
              rw [HPQ.out] at h8
              simpa [memP] using h8
            case measure => have := HG.out; have := HPQ.out; omega
    ·have hkl : k = l.length := by omega
     have hcomp := HSR.out.inv.comp HPATH.out (fun v hv => HVIS.out v (by omega))
     have HR : Hid (CompEnd w.heap.size l silent wr (.returned (.slice (some ⟨go, 0, none⟩) l.length l.length))) := Lib.hid (by
      rw [CompEnd, if_pos HV.out]
      exact ⟨go, st.out, rfl, ownsB_mono HSR.out.rep.ro (by omega), hcomp⟩)
     have i6 : ¬ (k : Int) < (l.length : Int) := by omega
     clear hcomp hkl
     go_wp2_with fail
     go_ret
     exact ⟨HR.out, f0.trans HF.out (by simp)⟩

end Go.Proofs.YtikpcipkkhmcfaaGreat
