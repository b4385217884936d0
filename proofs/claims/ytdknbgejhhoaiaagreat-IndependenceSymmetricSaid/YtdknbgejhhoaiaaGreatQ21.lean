/- Contract of Instance. -/
import Derived.Test.YtdknbgejhhoaiaaGreatQ20
import Derived.Deep.RegionHeld3
namespace Go.Proofs.YtdknbgejhhoaiaaGreat.Ind
open Go.Shelf Go.RowKit Go.Lib Go.Sort Go.Maps

theorem wpl_kins {α : Type} [DecidableEq α] {kt : TypeId} {ke : α → Value} {w : World} {ops : Array Oper} {rest : List Oper} {o : Oper} {a : Act} {Q : Exit → Act → World → Prop} (K : KeyS kt ke) (hg : o.guard = none) (m x v : Operand) (mt : TypeId) (hop : o.op = Op.insert mt m x v) {et : TypeId} (ht : Tryz.prog.underlying mt = some (.map kt et)) (b : Nat) (kv : List (α × Value)) (hm : a.eval m = .map (some b)) (hown : KM ke w b kv) (k : α) (hx : a.eval x = ke k) (u : Value) (hv : a.eval v = u) (hn : getA kv k = none)
    (hK : ∀ w', KM ke w' b (kv ++ [(k, u)]) → Frm [b] w w' → w'.heap.size = w.heap.size → wpList Tryz.prog ops Q rest (a.put o.dst undef) w') : wpList Tryz.prog ops Q (o :: rest) a w := by
  refine wpList_plain hg fun K' hK' => ?_
  obtain ⟨w', hrun, h1, h2, h3⟩ := hown.put K ht hn u
  unfold Oper.wp
  simp [execOp, hop, hm, hx, hv, hrun, Result.andThen]
  exact hK' _ _ (hK w' h1 h2 h3)
theorem keyPl : KeyS 67 p5V := key_place 67 (by kernel_rfl) rfl (by kernel_rfl)
/-- What Instance hands back. -/
def InstEnd (w : World) (m : RM) (n : Int) (e : Ending) (w' : World) : Prop :=
  (if validM m = true ∧ 1 ≤ n ∧ n ≤ 12 then
    match instR m n.toNat with
    | some rows => ∃ ov, e = .returned (.tuple #[.agg #[ov], .int .i64 0]) ∧ LtsAt w' [] ov rows
    | none => e = .returned (.tuple #[.agg #[.slice none 0 0], .int .i64 10])
  else e = .returned (.tuple #[.agg #[.slice none 0 0], .int .i64 1])) ∧ Frm [] w w'
/-- What stands still while Instance runs: the machine's box, the result's box, the old memory. -/
structure IFix (w wr : World) (x : Nat) (m : RM) (sa : Option Addr) (sc : Nat) : Prop where
  m : RowAt wr w.heap.size 30 (mboxC m (.slice sa m.states.length sc))
  r : RowAt wr (w.heap.size + 1) 25 [.slice none 0 0]
  f : Frm [] w wr
  x : w.heap.size + 2 ≤ x
/-- The blocks that turn. -/
def turnF (r x : Nat) (sv ov : Value) : List Nat := r :: x :: (x + 1 + 1) :: (sv.ownBlock.toList ++ ov.ownBlock.toList)
/-- What holds at the head of the outer loop. -/
structure ISt (w wr : World) (x : Nat) (m : RM) (n : Nat) (R : Option (List (List Ar))) (f i : Nat) (s : BS) (l5 : List P5) (sv ov : Value) : Prop where
  all : s.all = l5.map toP
  ok : BsOk m n s i
  le : i ≤ s.all.length
  few : s.all.length ≤ 16384
  tot : s.tot ≤ 262144
  fuel : f + i = 16400
  go : instGo m n f s i = R
  st : wr.ownsRow w.heap.size 67 5 sv l5.length (l5.flatMap encP5)
  map : KM p5V wr x (kvN l5)
  box : RowAt wr (x + 1 + 1) 25 [ov]
  out : LtsOwn wr w.heap.size (turnF (w.heap.size + 1) x sv ov) ov s.rows
  os : ∀ k, sv.ownBlock = some k → k = x + 1 ∨ x + 3 ≤ k
  oo : ∀ k, ov.ownBlock = some k → x + 3 ≤ k
  on : ∀ k, sv.ownBlock = some k → ov.ownBlock ≠ some k
  sz : x + 3 ≤ wr.heap.size
/-- The same but that the walk is told the slices' shapes. -/
theorem IFix.nil {w wr wr' : World} {x : Nat} {m : RM} {sa : Option Addr} {sc : Nat} {fp : List Nat} (h : IFix w wr x m sa sc) (hf : Frm fp wr wr') (hn : ∀ k ∈ fp, x ≤ k) : IFix w wr' x m sa sc :=
  ⟨h.m.frm hf (fun hm => by have := hn _ hm; have := h.x; omega), h.r.frm hf (fun hm => by have := hn _ hm; have := h.x; omega), h.f.trans hf (fun k hk => .inr (by have := hn k hk; have := h.x; omega)), h.x⟩
theorem i_start {w w1 w2 : World} {m : RM} {n : Nat} {R : Option (List (List Ar))} {sa : Option Addr} {sc : Nat} (hv : validM m = true) (hR : instR m n = R) (F1 : Frm [] w w1) (b0 : RowAt w1 w.heap.size 30 (mboxC m (.slice sa m.states.length sc))) (b1 : RowAt w1 (w.heap.size + 1) 25 [.slice none 0 0])
    (hk : KM p5V w2 w1.heap.size [((0, 0, 0, 0, 0), .int .i64 0)]) (hf : Frm [w1.heap.size] (w1.alloc (.map #[] 0)) w2) (hs : w2.heap.size = (w1.alloc (.map #[] 0)).heap.size) (W : World) (hW : W = (w2.alloc (.cells #[.int .i64 0, .int .i64 0, .int .i64 0, .int .i64 0, .int .i64 0] 67)).alloc (.cells #[.slice none 0 0] 25)) :
    IFix w W w1.heap.size m sa sc ∧ ISt w W w1.heap.size m n R 16400 0 start0 [(0, 0, 0, 0, 0)] (.slice (some ⟨w1.heap.size + 1, 0, none⟩) 1 1) (.slice none 0 0) := by
  have hs2 : w2.heap.size = w1.heap.size + 1 := by rw [hs]; simp
  have f2 : Frm [] w1 w2 := ((Frm.refl [w1.heap.size] w1).alloc _).trans hf (fun x hx => .inl hx) |>.trans (Frm.refl [] w2) (by simp) |> fun h => ⟨h.os, h.tape, h.output, h.size, fun k hk _ => h.block k hk (by simp; omega)⟩
  have f5 : Frm [] w1 W := by rw [hW]; exact (f2.alloc _).alloc _
  have hx : w.heap.size + 2 ≤ w1.heap.size := by have := b1.lt; omega
  have e2 : (w2.alloc (.cells #[.int .i64 0, .int .i64 0, .int .i64 0, .int .i64 0, .int .i64 0] 67)).heap.size = w1.heap.size + 2 := by simp [hs2]
  refine ⟨⟨b0.frm f5 (by simp), b1.frm f5 (by simp), F1.trans f5 (by simp), hx⟩, ?_⟩
  refine ⟨rfl, bs_start hv, Nat.zero_le _, by decide, by decide, rfl, hR, ?_, ?_, ?_, ⟨[], ⟨rfl, .inl ⟨rfl, rfl⟩⟩, by simp [Value.ownBlock], by simp, by simp [start0]⟩, by simp [Value.ownBlock], by simp [Value.ownBlock], by simp [Value.ownBlock], by rw [hW]; simp [hs2]⟩
  · rw [hW]
    refine World.ownsRow.alloc ?_ _
    have := owns_fullB w2 w.heap.size 67 5 1 [.int .i64 0, .int .i64 0, .int .i64 0, .int .i64 0, .int .i64 0] #[.int .i64 0, .int .i64 0, .int .i64 0, .int .i64 0, .int .i64 0] rfl rfl (by decide) (by omega)
    rw [hs2] at this
    exact this
  · rw [hW]
    exact hk.frm (((Frm.refl [] w2).alloc _).alloc _) (by simp)
  · rw [hW]
    have := RowAt.made (w2.alloc (.cells #[.int .i64 0, .int .i64 0, .int .i64 0, .int .i64 0, .int .i64 0] 67)) 25 [.slice none 0 0] #[.slice none 0 0] rfl
    rw [e2] at this
    exact this
theorem lts_shut {w wr : World} {x : Nat} {m : RM} {n : Nat} {R : Option (List (List Ar))} {f i : Nat} {s : BS} {l5 : List P5} {sv ov : Value} (h : ISt w wr x m n R f i s l5 sv ov) (hx : w.heap.size + 2 ≤ x) (u : Value) : LtsAt (wr.setCell ⟨w.heap.size + 1, 0, none⟩ u) [] ov s.rows := by
  obtain ⟨vs, h1, h2, h3, h4⟩ := h.out
  have hf : Frm [w.heap.size + 1] wr (wr.setCell ⟨w.heap.size + 1, 0, none⟩ u) := (Frm.refl _ wr).setCell (.inl (by simp)) u
  refine ⟨vs, ?_, fun i r hr => ?_⟩
  · have hv : RowV wr [w.heap.size + 1] ov s.rows.length 1 vs := rowV_of_owns h1 (fun k hk e => by
      rw [List.mem_singleton] at hk
      have := h.oo k e
      omega)
    exact hv.step hf (fun k hk => .inl hk) (by simp)
  · obtain ⟨u', hu, h5⟩ := h4 i r hr
    exact ⟨u', hu, h5.step hf (fun k hk => .inl (by rw [List.mem_singleton] at hk; rw [hk]; simp [turnF])) (by simp)⟩
theorem LtsOwn.nil {w w' : World} {B : Nat} {F : List Nat} {v : Value} {rows : List (List Ar)} (h : LtsOwn w B F v rows) (hf : Frm [] w w') : LtsOwn w' B F v rows := by
  obtain ⟨vs, h1, h2, h3, h4⟩ := h
  refine ⟨vs, ownsB_frm h1 hf (by simp), h2, h3, fun i r hr => ?_⟩
  obtain ⟨u, hu, h5⟩ := h4 i r hr
  exact ⟨u, hu, h5.nil hf⟩
theorem ISt.nil {w wr wr' : World} {x : Nat} {m : RM} {n : Nat} {R : Option (List (List Ar))} {f i : Nat} {s : BS} {l5 : List P5} {sv ov : Value} (h : ISt w wr x m n R f i s l5 sv ov) (hf : Frm [] wr wr') : ISt w wr' x m n R f i s l5 sv ov :=
  ⟨h.all, h.ok, h.le, h.few, h.tot, h.fuel, h.go, ownsB_frm h.st hf (by simp), h.map.frm hf (by simp), h.box.frm hf (by simp), h.out.nil hf, h.os, h.oo, h.on, Nat.le_trans h.sz hf.size⟩
theorem cells5 {w : World} {B n cap g : Nat} {l : List P5} (h : w.ownsRow B 67 5 (.slice (some ⟨g, 0, none⟩) n cap) n (l.flatMap encP5)) {i : Nat} {x : P5} (hx : l[i]? = some x) : ∀ (j : Nat) (u : Value), j < 5 → (encP5 x)[j]? = some u → w.cell? ⟨g, i * 5 + j, none⟩ = some u := by
  intro j u hj hu
  have hn : 0 < n := by
    have h1 := h.1
    rw [flatMap_len (enc := encP5) (k := 5) (fun _ => rfl)] at h1
    have h2 := (List.getElem?_eq_some_iff.1 hx).1
    omega
  obtain ⟨g', cap', e, _, _, _, hr⟩ := ownsB_some h hn
  cases e
  exact hr.cell (by rw [flatMap_get (enc := encP5) (k := 5) (fun _ => rfl) hx j hj]; exact hu)
/-- The arcs of a state that have been gathered. -/
def mvJ (m : RM) (n : Nat) (p : Pl) (row : List RA) (j : Nat) : List Mv := (row.take j).flatMap (movesB m n p)
theorem mvJ_succ {m : RM} {n : Nat} {p : Pl} {row : List RA} {j : Nat} {y : RA} (h : row[j]? = some y) : mvJ m n p row (j + 1) = mvJ m n p row j ++ movesB m n p y := by
  rw [mvJ, mvJ, take_snoc h, List.flatMap_append]
  simp
theorem mvJ_len {m : RM} {n : Nat} (p : Pl) (row : List RA) (j : Nat) (hn : n ≤ 12) (hr : row.length ≤ 16) : (mvJ m n p row j).length ≤ 192 := by
  have h1 := flat_len (movesB m n p) 12 (row.take j) (fun x _ => moves_len hn)
  have h2 : (row.take j).length ≤ 16 := by rw [List.length_take]; omega
  unfold mvJ
  omega
theorem zero_int (w : World) : (zeroValue 3).run Tryz.prog w = .ok (.int .i64 0) w := Tryz.zeroValue3 w
theorem rf_step {all : List Pl} {x6 : List M6} {k : Nat} {y : M6} {l5 : List P5} {rw9 : List Ar} (h : rowF all ((x6.take k).map toM) = (l5.map toP, rw9)) (hy : x6[k]? = some y) :
    (y.2 ∈ l5 → rowF all ((x6.take (k + 1)).map toM) = (l5.map toP, rw9 ++ [(y.1, ((l5.idxOf y.2 : Nat) : Int))])) ∧ (y.2 ∉ l5 → rowF all ((x6.take (k + 1)).map toM) = ((l5 ++ [y.2]).map toP, rw9 ++ [(y.1, (l5.length : Int))])) := by
  rw [take_snoc hy, List.map_append, List.map_cons, List.map_nil, rowF_snoc, h]
  constructor
  · intro hm
    show ((numP (l5.map toP) (toP y.2)).1, rw9 ++ [(y.1, ((numP (l5.map toP) (toP y.2)).2 : Int))]) = _
    rw [num_old hm]
  · intro hm
    show ((numP (l5.map toP) (toP y.2)).1, rw9 ++ [(y.1, ((numP (l5.map toP) (toP y.2)).2 : Int))]) = _
    rw [num_new hm]
theorem rf_len {all : List Pl} (h : all.Nodup) {x6 : List M6} {k : Nat} {l5 : List P5} {rw9 : List Ar} (hr : rowF all ((x6.take k).map toM) = (l5.map toP, rw9)) : l5.length ≤ all.length + x6.length ∧ rw9.length ≤ x6.length := by
  have h1 := rf h ((x6.take k).map toM)
  have h2 := h1.len
  have h3 := h1.row_len
  rw [hr] at h2 h3
  simp only [List.length_map, List.length_take] at h2 h3
  omega
theorem encP5_one (l : List P5) : ∀ u ∈ l.flatMap encP5, u.oneCell' = true := fun u hu => by
  obtain ⟨x, _, hx⟩ := List.mem_flatMap.1 hu
  simp [encP5] at hx
  rcases hx with rfl | rfl | rfl | rfl | rfl <;> rfl
theorem arE_one (l : List Ar) : ∀ u ∈ l.flatMap arE, u.oneCell' = true := fun u hu => by
  obtain ⟨x, _, hx⟩ := List.mem_flatMap.1 hu
  simp [arE] at hx
  rcases hx with rfl | rfl <;> rfl
theorem row_sorted {l : List Ar} (hn : l.Nodup) : (l.mergeSort fun x y => !ltOf cmpAr y x) = setG ltAr l := by
  refine sort_set sto_Ar (fun x => (List.mergeSort_perm _ _).mem_iff) ((List.mergeSort_perm _ _).nodup_iff.2 hn) ?_
  exact (pw_merge sto_ar l).imp fun {a b} hab => by rw [cmpAr_lt] at hab; exact hab
theorem bstep_eq {m : RM} {n : Nat} {s : BS} {i : Nat} {p : Pl} {x6 : List M6} {l5 : List P5} {rw9 : List Ar} (hp : s.all[i]? = some p) (he : x6.map toM = edgesB m n p) (hr : rowF s.all (x6.map toM) = (l5.map toP, rw9)) :
    bstep m n s i = ⟨l5.map toP, s.rows ++ [setG ltAr rw9], s.tot + (setG ltAr rw9).length⟩ := by
  unfold bstep
  rw [hp, Option.getD_some, ← he, hr]
theorem row_nd {m : RM} {n : Nat} {p : Pl} {all : List Pl} {x6 : List M6} {l5 : List P5} {rw9 : List Ar} (ha : all.Nodup) (he : x6.map toM = edgesB m n p) (hr : rowF all (x6.map toM) = (l5.map toP, rw9)) : rw9.Nodup := by
  have h1 := (rf ha (x6.map toM)).row_nodup (by rw [he]; exact edges_nodup)
  rw [hr] at h1
  exact h1
theorem lts_next {V W : World} {B : Nat} {F F' fp : List Nat} {v' : Value} {rows : List (List Ar)} {rr : List Ar} {u : Value} (hf : Frm fp V W) (hfp : ∀ k ∈ fp, k ∈ F ∨ V.heap.size ≤ k) (hF : ∀ k ∈ F', k ∈ F ∨ V.heap.size ≤ k)
    (ho : ∃ vs, (∀ (i : Nat) (r : List Ar), rows[i]? = some r → ∃ u, vs[i]? = some u ∧ RowV V F u r.length 2 (r.flatMap arE)) ∧ (∀ u ∈ vs, u.oneCell' = true) ∧ vs.length = rows.length ∧ W.ownsRow B 51 1 v' (rows.length + 1) (vs ++ [u])) (hv' : ∀ k, v'.ownBlock = some k → k ∈ F') (hu1 : u.oneCell' = true) (hu : RowV W F' u rr.length 2 (rr.flatMap arE)) : LtsOwn W B F' v' (rows ++ [rr]) := by
  obtain ⟨vs, h1, h2, h3, h4⟩ := ho
  refine ⟨vs ++ [u], by simpa using h4, hv', fun z hz => ?_, fun i r hr => ?_⟩
  · rcases List.mem_append.1 hz with hz | hz
    · exact h2 z hz
    · rw [List.mem_singleton.1 hz]; exact hu1
  · by_cases hi : i < rows.length
    · rw [List.getElem?_append_left hi] at hr
      obtain ⟨z, hz, hz2⟩ := h1 i r hr
      exact ⟨z, by rw [List.getElem?_append_left (by omega)]; exact hz, hz2.step hf hfp hF⟩
    · have hi2 : i = rows.length := by
        have := (List.getElem?_eq_some_iff.1 hr).1
        rw [List.length_append, List.length_singleton] at this
        omega
      rw [hi2, List.getElem?_append_right (Nat.le_refl _), Nat.sub_self] at hr
      cases hr
      exact ⟨u, by rw [hi2, ← h3, List.getElem?_append_right (Nat.le_refl _), Nat.sub_self]; rfl, hu⟩

set_option linter.unusedSimpArgs false in
set_option maxRecDepth 100000 in
set_option maxHeartbeats 16000000 in
theorem instance_any {F : List Nat} (w : World) (m : RM) (sv0 : Value) (n : Int) (h : StatesAt w F sv0 m.states) :
    Calls Tryz.prog 14 #[machV m sv0, .int .i64 n] w (InstEnd w m n) := by
  obtain ⟨sa, sc, rfl, l1⟩ := statesShape h
  have hval := fun W (hf : Frm [] w W) => valid_any W m (.slice sa m.states.length sc) (h.nil hf)
  have H := Lib.hid h
  clear h
  cases hvm : validM m with
  | false =>
    rw [hvm] at hval
    have HV := Lib.hid hval
    have HVM := Lib.hid hvm
    clear hval hvm
    have f0 : Frm [] w ((w.alloc (.cells #[.int .i64 m.regs, .int .i64 m.data, .int .i64 m.plain, .slice sa m.states.length sc] 30)).alloc (.cells #[.slice none 0 0] 25)) := ((Frm.refl [] w).alloc _).alloc _
    have hb1 := row_made1 w (.cells #[.int .i64 m.regs, .int .i64 m.data, .int .i64 m.plain, .slice sa m.states.length sc] 30) 25 [.slice none 0 0] #[.slice none 0 0] rfl
    have HB1 := Lib.hid hb1
    have HEND : Hid (∀ w', Frm [] w w' → InstEnd w m n (.returned (.tuple #[.agg #[.slice none 0 0], .int .i64 1])) w') := Lib.hid fun w' hf => ⟨by rw [if_neg (fun h9 => by have := h9.1; rw [HVM.out] at this; cases this)], hf⟩
    clear hb1
    unfold machV
    go_enter Tryz.func14, Tryz.ntmps14
    go_wp2_with fail
    refine (HV.out _ f0).mono ?_
    rintro e1 w1 ⟨rfl, hf1⟩
    have r1 := HB1.out.frm hf1 (by simp)
    have c1 := r1.cell (i := 0) rfl
    have z1 := r1.frozen 0
    have hcs := World.cell?_setCell_same' w1 ⟨w.heap.size + 1, 0, none⟩ (.slice none 0 0) (by rw [c1]; rfl)
    have HFI := Lib.hid (HEND.out _ ((f0.trans hf1 (by simp)).setCell (p := ⟨w.heap.size + 1, 0, none⟩) (.inr (by simp)) (.slice none 0 0)))
    clear f0 hf1 r1
    go_wp2_with fail
    refine bodyPost_ret (v := .tuple #[.agg #[.slice none 0 0], .int .i64 1]) (by simp [results, Tryz.results14, go_sem, hcs]) rfl ?_
    exact HFI.out
  | true =>
    by_cases hn : 1 ≤ n ∧ n ≤ 12
    · rw [hvm] at hval
      have HV := Lib.hid hval
      have HVM := Lib.hid hvm
      have HRM := Lib.hid (validM_ok hvm)
      obtain ⟨nn, rfl⟩ : ∃ nn : Nat, n = nn := ⟨n.toNat, by omega⟩
      have hn1 : 1 ≤ nn := by omega
      have hn2 : nn ≤ 12 := by omega
      obtain ⟨R, hR⟩ : ∃ R, instR m nn = R := ⟨_, rfl⟩
      have HR := Lib.hid hR
      have c1 : ¬ (nn : Int) < 1 := by omega
      have c2 : ¬ 12 < (nn : Int) := by omega
      have HEND : Hid (∀ e w', (match R with
          | some rows => ∃ ov, e = .returned (.tuple #[.agg #[ov], .int .i64 0]) ∧ LtsAt w' [] ov rows
          | none => e = .returned (.tuple #[.agg #[.slice none 0 0], .int .i64 10])) → Frm [] w w' → InstEnd w m nn e w') := Lib.hid fun e w' h1 h2 => by
        refine ⟨?_, h2⟩
        rw [if_pos ⟨hvm, hn⟩, Int.toNat_natCast, hR]
        exact h1
      have hmm := @run_makeMap Tryz.prog
      clear hval hvm hn hR
      unfold machV
      have f0 : Frm [] w ((w.alloc (.cells #[.int .i64 m.regs, .int .i64 m.data, .int .i64 m.plain, .slice sa m.states.length sc] 30)).alloc (.cells #[.slice none 0 0] 25)) := ((Frm.refl [] w).alloc _).alloc _
      have hb0 := (RowAt.made w 30 (mboxC m (.slice sa m.states.length sc)) #[.int .i64 m.regs, .int .i64 m.data, .int .i64 m.plain, .slice sa m.states.length sc] rfl).alloc (.cells #[.slice none 0 0] 25)
      have hb1 := row_made1 w (.cells #[.int .i64 m.regs, .int .i64 m.data, .int .i64 m.plain, .slice sa m.states.length sc] 30) 25 [.slice none 0 0] #[.slice none 0 0] rfl
      go_enter Tryz.func14, Tryz.ntmps14
      go_wp2_with fail
      refine (HV.out _ f0).mono ?_
      rintro e1 w1 ⟨rfl, hf1⟩
      have F1 := Lib.hid (f0.trans hf1 (by simp))
      have B0 := Lib.hid (hb0.frm hf1 (by simp))
      have B1 := Lib.hid (hb1.frm hf1 (by simp))
      clear f0 hb0 hb1 hf1
      go_wp2_with (first | (refine wpl_kins keyPl rfl _ _ _ _ rfl Tryz.underlying68 w1.heap.size [] rfl (KM.fresh w1) (0, 0, 0, 0, 0) rfl _ rfl rfl ?_; intro w2 hk2 hf2 hs2) | fail)
      obtain ⟨w5, hw5⟩ : ∃ w5, w5 = (w2.alloc (.cells #[.int .i64 0, .int .i64 0, .int .i64 0, .int .i64 0, .int .i64 0] 67)).alloc (.cells #[.slice none 0 0] 25) := ⟨_, rfl⟩
      have hst := i_start HVM.out HR.out F1.out B0.out B1.out hk2 hf2 hs2 w5 hw5
      rw [← hw5]
      have HFX := Lib.hid hst.1
      have HIS := Lib.hid hst.2
      clear hst hw5 hk2 hf2 hs2 F1 B0 B1 hmm HR
      generalize hx1 : w1.heap.size = x at *
      clear hx1
      go_loopg [7, 9, 10] 16400 (fun q t7 t9 t10 wr => ∃ (f i : Nat) (s : BS) (l5 : List P5) (ov : Value), q = f ∧ IFix w wr x m sa sc ∧ ISt w wr x m nn R f i s l5 t7 ov ∧ t9 = .int .i64 (s.tot : Int) ∧ t10 = .int .i64 (i : Int))
      case atStart => exact ⟨_, 0, start0, _, _, rfl, HFX.out, HIS.out, rfl, rfl⟩
      case round =>
        clear HFX HIS
        obtain ⟨f, i, s, l5, ov, hq, hfx, his, rfl, rfl⟩ := hrel
        have HQ := Lib.hid hq
        clear hq
        obtain ⟨oad, ocp, rfl⟩ : ∃ a c, ov = .slice a s.rows.length c := by
          obtain ⟨vs, h1, _⟩ := his.out
          obtain ⟨a, c, e, _⟩ := owns_shape (ownsB_mono h1 (Nat.zero_le _))
          exact ⟨a, c, e⟩
        have HFX := Lib.hid hfx
        have HIS := Lib.hid his
        have i4 : (0 : Int) ≤ (i : Int) := by omega
        clear hfx his
        have hal : s.all.length = l5.length := by rw [HIS.out.all, List.length_map]
        have hle5 : i ≤ l5.length := by rw [← hal]; exact HIS.out.le
        have hl5 : (l5.length : Int) ≤ 16384 := by have := HIS.out.few; omega
        obtain ⟨sad, scp, rfl, _⟩ := owns_shape (ownsB_mono HIS.out.st (Nat.zero_le _))
        have HAL := Lib.hid hal
        clear hal
        by_cases hlt : i < l5.length
        · have i5 : (i : Int) < (l5.length : Int) := by omega
          obtain ⟨⟨st, r0, r1, r2, r3⟩, hp5⟩ : ∃ p, l5[i]? = some p := ⟨_, List.getElem?_eq_getElem hlt⟩
          have hpa : s.all[i]? = some (st, [r0, r1, r2, r3]) := by rw [HIS.out.all, List.getElem?_map, hp5]; rfl
          have hgood := HIS.out.ok.good _ (List.mem_of_getElem? hpa)
          obtain ⟨sk, rfl⟩ : ∃ sk : Nat, st = sk := ⟨st.toNat, by have := hgood.2.1; omega⟩
          have hsk : sk < m.states.length := by have := hgood.2.2.1; omega
          obtain ⟨row, hrow⟩ : ∃ row, m.states[sk]? = some row := ⟨_, List.getElem?_eq_getElem hsk⟩
          have harc : arcsOf m ((sk : Int), [r0, r1, r2, r3]) = row := by rw [arcsOf, Int.toNat_natCast, hrow]; rfl
          obtain ⟨sg, scp', e0, _, _, _, _⟩ := ownsB_some HIS.out.st (by omega)
          obtain ⟨rfl, rfl⟩ : sad = some ⟨sg, 0, none⟩ ∧ scp = scp' := by simpa using e0
          have cp5 := cells5 HIS.out.st hp5
          unfold encP5 at cp5
          have p0 := cp5 0 _ (by omega) rfl
          have p1 := cp5 1 _ (by omega) rfl
          have p2 := cp5 2 _ (by omega) rfl
          have p3 := cp5 3 _ (by omega) rfl
          have p4 := cp5 4 _ (by omega) rfl
          rw [Nat.add_zero] at p0
          simp only at p0 p1 p2 p3 p4
          have q3 := HFX.out.m.cell (i := 3) rfl
          obtain ⟨b8, o8, c8, ra, rn, rc, e8, _, _, _, hcell, rfl, harcs⟩ := H.out.at_ hrow
          cases e8
          have d8 := HFX.out.f.cell hcell (by simp)
          have i6 : (0 : Int) ≤ (sk : Int) := by omega
          have i7 : (sk : Int) < (m.states.length : Int) := by omega
          have HRO : Hid (∀ y ∈ row, RaOk m y) := Lib.hid fun y hy => arc_ok HRM.out (validM_arc HVM.out (List.mem_of_getElem? hrow) hy)
          have HR16 := Lib.hid (validM_row HVM.out (List.mem_of_getElem? hrow))
          have HGOOD := Lib.hid hgood
          have HP5 := Lib.hid hp5
          have HPA := Lib.hid hpa
          have HARC := Lib.hid harc
          have HA := Lib.hid harcs
          have P0 := Lib.hid p0
          have P1 := Lib.hid p1
          have P2 := Lib.hid p2
          have P3 := Lib.hid p3
          have P4 := Lib.hid p4
          clear cp5 e0 hgood hp5 hpa harc harcs hrow hsk hcell p1 p2 p3 p4 hlt
          go_wp2_with fail
          go_quiet (fail)
          go_wp2_with fail
          obtain ⟨V, hV⟩ : ∃ V, V = wr.drewN nq := ⟨_, rfl⟩
          have FV := Lib.hid (show Frm [] wr V by rw [hV]; exact (Frm.refl [] wr).drewN _)
          rw [← hV]
          have HFX0 := Lib.hid (HFX.out.nil FV.out (by simp))
          have HIS0 := Lib.hid (HIS.out.nil FV.out)
          have hrl : (row.length : Int) ≤ 16 := by have := HR16.out; omega
          have P0' := Lib.hid (FV.out.cell P0.out (by simp))
          have P1' := Lib.hid (FV.out.cell P1.out (by simp))
          have P2' := Lib.hid (FV.out.cell P2.out (by simp))
          have P3' := Lib.hid (FV.out.cell P3.out (by simp))
          have P4' := Lib.hid (FV.out.cell P4.out (by simp))
          clear P0 P1 P2 P3 P4 p0 q3 d8 hV FV HFX HIS
          go_loopg [11, 52] row.length (fun q t11 t52 wr => ∃ (j : Nat) (ad : Option Addr) (cp : Nat), q = row.length - j ∧ j ≤ row.length ∧ t52 = .int .i64 j ∧ t11 = .slice ad (mvJ m nn (sk, [r0, r1, r2, r3]) row j).length cp ∧ wr.ownsRow V.heap.size 74 6 (.slice ad (mvJ m nn (sk, [r0, r1, r2, r3]) row j).length cp) (mvJ m nn (sk, [r0, r1, r2, r3]) row j).length (mvsC (mvJ m nn (sk, [r0, r1, r2, r3]) row j)) ∧ Frm [] V wr)
          case atStart => exact ⟨0, none, 0, rfl, Nat.zero_le _, rfl, rfl, ⟨rfl, .inl ⟨rfl, rfl⟩⟩, Frm.refl _ _⟩
          case round =>
            obtain ⟨j, ad, cp, hq2, hj, rfl, rfl, hown, hF⟩ := hrel
            have HQ2 := Lib.hid hq2
            have HF := Lib.hid hF
            have HO := Lib.hid hown
            have i8 : (0 : Int) ≤ (j : Int) := by omega
            clear hq2 hF hown
            by_cases hjl : j < row.length
            · have i9 : (j : Int) < (row.length : Int) := by omega
              obtain ⟨y, hy⟩ : ∃ y, row[j]? = some y := ⟨_, List.getElem?_eq_getElem hjl⟩
              obtain ⟨b9, o9, na, nc, rfl, _, _, g0, g1, g2, g3, g4, g5, hno⟩ := HA.out.at_ hy
              have HW := Lib.hid (HFX0.out.f.trans HF.out (by simp))
              have a0 := HW.out.cell g0 (by simp)
              have a1 := HW.out.cell g1 (by simp)
              have a2 := HW.out.cell g2 (by simp)
              have a3 := HW.out.cell g3 (by simp)
              have a4 := HW.out.cell g4 (by simp)
              have a5 := HW.out.cell g5 (by simp)
              have HSU := Lib.hid (mvJ_succ (m := m) (n := nn) (p := ((sk : Int), [r0, r1, r2, r3])) hy)
              have HL1 := Lib.hid (mvJ_len (m := m) (n := nn) ((sk : Int), [r0, r1, r2, r3]) row j hn2 HR16.out)
              have HL2 := Lib.hid (mvJ_len (m := m) (n := nn) ((sk : Int), [r0, r1, r2, r3]) row (j + 1) hn2 HR16.out)
              have HMV : Hid (∀ W, Frm [] wr W → Calls Tryz.prog 31 #[machV m (.slice (some ⟨b8, o8, none⟩) m.states.length sc), .int .i64 nn, .agg #[.int .i64 sk, .int .i64 r0, .int .i64 r1, .int .i64 r2, .int .i64 r3], arcV (.slice na y.not.length nc) y] W (MovesEnd W (movesB m nn (sk, [r0, r1, r2, r3]) y))) := Lib.hid fun W hf =>
                moves_any W m _ _ sc nn sk r0 r1 r2 r3 _ y ((hno.nil HW.out).nil hf) HRM.out (HRO.out y (List.mem_of_getElem? hy)) hn1 hn2 HGOOD.out.2.2.2
              obtain ⟨xb, hxb⟩ : ∃ xb, xb = wr.heap.size := ⟨_, rfl⟩
              have HXB := Lib.hid hxb
              have HOL : Hid (∀ z ∈ (Value.slice ad (mvJ m nn (sk, [r0, r1, r2, r3]) row j).length cp).ownBlock.toList, V.heap.size ≤ z ∧ z < wr.heap.size) := Lib.hid fun z hz => HO.out.lt z (by simpa using hz)
              clear g0 g1 g2 g3 g4 g5 hno hy hxb
              unfold machV arcV at HMV
              go_wp2_with fail
              rw [← HXB.out]
              obtain ⟨W6, hW6⟩ : ∃ W6, W6 = wr.alloc (.cells #[.int .i64 y.kind, .int .i64 y.ch, .int .i64 y.reg, .int .i64 y.frm, .slice na y.not.length nc, .int .i64 y.to] 47) := ⟨_, rfl⟩
              have FW6 := Lib.hid (show Frm [] wr W6 by rw [hW6]; exact (Frm.refl [] wr).alloc _)
              have BX6 := Lib.hid (show RowAt W6 xb 47 [.int .i64 y.kind, .int .i64 y.ch, .int .i64 y.reg, .int .i64 y.frm, .slice na y.not.length nc, .int .i64 y.to] by rw [hW6, HXB.out]; exact RowAt.made wr _ _ _ rfl)
              rw [← hW6]
              have FV6 := Lib.hid (HF.out.trans FW6.out (by simp))
              have OW6 := Lib.hid (ownsB_frm HO.out FW6.out (by simp))
              have MX6 := Lib.hid (HFX0.out.m.frm FV6.out (by simp))
              have hxbV : Hid (V.heap.size ≤ xb) := Lib.hid (by rw [HXB.out]; exact HF.out.size)
              have hsgV : Hid (sg < V.heap.size) := Lib.hid (HIS0.out.st.lt sg rfl).2
              have hwV : Hid (w.heap.size < V.heap.size) := Lib.hid HFX0.out.m.lt
              clear hW6 a0 a1 a2 a3 a4 a5
              have KEEP : Hid (∀ (fp : List Nat) (w' : World), Frm fp W6 w' → (∀ z ∈ fp, V.heap.size ≤ z ∧ z < xb) → w'.cell? ⟨w.heap.size, 0, none⟩ = some (.int .i64 m.regs) ∧ w'.cell? ⟨w.heap.size, 1, none⟩ = some (.int .i64 m.data) ∧ w'.cell? ⟨w.heap.size, 2, none⟩ = some (.int .i64 m.plain) ∧ w'.cell? ⟨w.heap.size, 3, none⟩ = some (.slice (some ⟨b8, o8, none⟩) m.states.length sc) ∧ w'.cell? ⟨sg, i * 5, none⟩ = some (.int .i64 sk) ∧ w'.cell? ⟨sg, i * 5 + 1, none⟩ = some (.int .i64 r0) ∧ w'.cell? ⟨sg, i * 5 + 2, none⟩ = some (.int .i64 r1) ∧ w'.cell? ⟨sg, i * 5 + 3, none⟩ = some (.int .i64 r2) ∧ w'.cell? ⟨sg, i * 5 + 4, none⟩ = some (.int .i64 r3) ∧ w'.cell? ⟨xb, 0, none⟩ = some (.int .i64 y.kind) ∧ w'.cell? ⟨xb, 1, none⟩ = some (.int .i64 y.ch) ∧ w'.cell? ⟨xb, 2, none⟩ = some (.int .i64 y.reg) ∧ w'.cell? ⟨xb, 3, none⟩ = some (.int .i64 y.frm) ∧ w'.cell? ⟨xb, 4, none⟩ = some (.slice na y.not.length nc) ∧ w'.cell? ⟨xb, 5, none⟩ = some (.int .i64 y.to)) := Lib.hid fun fp w' hf hfp => by
                have hm := MX6.out.frm hf (fun hz => by have := (hfp _ hz).1; have := hwV.out; omega)
                have hy := BX6.out.frm hf (fun hz => by have := (hfp _ hz).2; omega)
                have hs : sg ∉ fp := fun hz => by have := (hfp _ hz).1; have := hsgV.out; omega
                exact ⟨hm.cell (i := 0) rfl, hm.cell (i := 1) rfl, hm.cell (i := 2) rfl, hm.cell (i := 3) rfl, hf.cell (FV6.out.cell P0'.out (by simp)) hs, hf.cell (FV6.out.cell P1'.out (by simp)) hs, hf.cell (FV6.out.cell P2'.out (by simp)) hs, hf.cell (FV6.out.cell P3'.out (by simp)) hs, hf.cell (FV6.out.cell P4'.out (by simp)) hs, hy.cell (i := 0) rfl, hy.cell (i := 1) rfl, hy.cell (i := 2) rfl, hy.cell (i := 3) rfl, hy.cell (i := 4) rfl, hy.cell (i := 5) rfl⟩
              go_region_held3 (fun w' => w'.cell? ⟨w.heap.size, 0, none⟩ = some (.int .i64 m.regs) ∧ w'.cell? ⟨w.heap.size, 1, none⟩ = some (.int .i64 m.data) ∧ w'.cell? ⟨w.heap.size, 2, none⟩ = some (.int .i64 m.plain) ∧ w'.cell? ⟨w.heap.size, 3, none⟩ = some (.slice (some ⟨b8, o8, none⟩) m.states.length sc) ∧ w'.cell? ⟨sg, i * 5, none⟩ = some (.int .i64 sk) ∧ w'.cell? ⟨sg, i * 5 + 1, none⟩ = some (.int .i64 r0) ∧ w'.cell? ⟨sg, i * 5 + 2, none⟩ = some (.int .i64 r1) ∧ w'.cell? ⟨sg, i * 5 + 3, none⟩ = some (.int .i64 r2) ∧ w'.cell? ⟨sg, i * 5 + 4, none⟩ = some (.int .i64 r3) ∧ w'.cell? ⟨xb, 0, none⟩ = some (.int .i64 y.kind) ∧ w'.cell? ⟨xb, 1, none⟩ = some (.int .i64 y.ch) ∧ w'.cell? ⟨xb, 2, none⟩ = some (.int .i64 y.reg) ∧ w'.cell? ⟨xb, 3, none⟩ = some (.int .i64 y.frm) ∧ w'.cell? ⟨xb, 4, none⟩ = some (.slice na y.not.length nc) ∧ w'.cell? ⟨xb, 5, none⟩ = some (.int .i64 y.to))
                (first | exact KEEP.out [] _ (Frm.refl [] W6).drew (by simp) | exact KEEP.out [] _ hy8 (by simp) | exact KEEP.out _ _ hy9 hz9)
                (first
                  | (go_at_call 31; refine (HMV.out _ (FW6.out.trans (Frm.refl [] W6).drew (by simp))).mono ?_; rintro e8 w8 ⟨⟨ma, mc, rfl, ho8⟩, hf8⟩; have hy8 := (Frm.refl [] W6).drew.trans hf8 (by simp))
                  | (refine step_app_row rfl (.tmp 56) (.tmp 64) 70 74 _ 6 48 rfl Tryz.underlying70 infoMv rfl (by decide) (by decide) V.heap.size (mvJ m nn (sk, [r0, r1, r2, r3]) row j).length _ _ rfl (ownsB_frm OW6.out hy8 (by simp)) _ (movesB m nn (sk, [r0, r1, r2, r3]) y).length (mvsC (movesB m nn (sk, [r0, r1, r2, r3]) y)) (Value.slice ad (mvJ m nn (sk, [r0, r1, r2, r3]) row j).length cp).ownBlock.toList rfl (rowV_new ho8 (fun z hz => by have h1 := HOL.out z hz; have h2 := FW6.out.size; show z < W6.heap.size; omega)) (mvsC_one _) (mvJ m nn (sk, [r0, r1, r2, r3]) row (j + 1)).length (by rw [HSU.out, List.length_append]) (by have := HL2.out; omega) (by have h1 := FV6.out.size; have h2 := hy8.size; omega) ?_; intro a9 c9 w9 own9 hf9; have hy9 : Frm (Value.slice ad (mvJ m nn (sk, [r0, r1, r2, r3]) row j).length cp).ownBlock.toList W6 w9 := (hy8.mono (by simp)).trans hf9 (fun x hx => .inl hx); have hz9 : ∀ z ∈ (Value.slice ad (mvJ m nn (sk, [r0, r1, r2, r3]) row j).length cp).ownBlock.toList, V.heap.size ≤ z ∧ z < xb := fun z hz => by have := HOL.out z hz; have := HXB.out; omega))
              go_wp2_with fail
              have O9 := Lib.hid own9
              have F9 := Lib.hid (FV6.out.trans hy9 (fun z hz => .inr (HOL.out z hz).1))
              clear own9 hf9 hy9 hz9 hy8 ho8 hf8
              go_roundg (row.length - (j + 1))
              case rel =>
                refine ⟨j + 1, a9, c9, rfl, by omega, by go_num, rfl, ?_, F9.out⟩
                have := O9.out
                rw [← mvsC_app, ← HSU.out] at this
                exact this
              case measure => have := HQ2.out; omega
            · have i9 : ¬ (j : Int) < (row.length : Int) := by omega
              have hjr : j = row.length := by omega
              have hall : mvJ m nn (sk, [r0, r1, r2, r3]) row j = allM m nn (sk, [r0, r1, r2, r3]) := by
                rw [mvJ, hjr, List.take_length, allM, HARC.out]
              rw [hall] at HO ⊢
              have hlal := allM_len (p := ((sk : Int), [r0, r1, r2, r3])) HVM.out hn2
              obtain ⟨l6, hl6⟩ := ex6 (allM m nn (sk, [r0, r1, r2, r3])) (allM_four HVM.out HGOOD.out hn2)
              have hed := edges_made hl6
              rw [← hl6, List.length_map, mvsC_map] at HO
              rw [← hl6, List.length_map] at hlal ⊢
              have hsort := sortM_any V.heap.size ad cp l6.length l6 wr HO.out rfl (by omega)
              have HSORT := Lib.hid hsort
              have HED := Lib.hid hed
              have HLAL := Lib.hid hlal
              clear hall hl6 hed hlal hsort hjr
              go_wp2_with (first | (go_at_call 32; refine HSORT.out.mono ?_; rintro e7 w7 ⟨⟨rfl, own7⟩, hf7⟩) | fail)
              have hcm := compact_any V.heap.size ad cp (l6.mergeSort fun x y => !ltOf cmp6 y x) w7 (by rw [List.length_mergeSort]; exact own7) (by rw [List.length_mergeSort]; have := HLAL.out; omega)
              have hnx : (compG (l6.mergeSort fun x y => !ltOf cmp6 y x)).length ≤ 192 := by
                have h1 := compG_len (l6.mergeSort fun x y => !ltOf cmp6 y x)
                rw [List.length_mergeSort] at h1
                have := HLAL.out
                omega
              rw [List.length_mergeSort] at hcm
              unfold CptEnd at hcm
              rw [List.length_mergeSort] at hcm
              generalize (compG (l6.mergeSort fun x y => !ltOf cmp6 y x)) = x6 at *
              have HOL : Hid (∀ z ∈ (Value.slice ad l6.length cp).ownBlock.toList, V.heap.size ≤ z) := Lib.hid fun z hz => (HO.out.lt z (by simpa using hz)).1
              have HF7 := Lib.hid (HF.out.trans hf7 (fun z hz => .inr (HOL.out z hz)))
              have HCM := Lib.hid hcm
              clear hcm own7 hf7
              refine HCM.out.mono ?_
              rintro e9 w9 ⟨rfl, own9, hf9⟩
              have HF9 := Lib.hid (HF7.out.trans hf9 (fun z hz => .inr (HOL.out z hz)))
              have HO9 := Lib.hid own9
              clear own9 hf9
              have HFX3 := Lib.hid (HFX0.out.nil HF9.out (by simp))
              have HIS3 := Lib.hid (HIS0.out.nil HF9.out)
              have HSZ9 := Lib.hid HF9.out.size
              have hxV : Hid (x + 3 ≤ V.heap.size) := Lib.hid HIS0.out.sz
              have hsgV : Hid (sg < V.heap.size) := Lib.hid (HIS0.out.st.lt sg rfl).2
              have i10 : (x6.length : Int) ≤ 192 := by omega
              clear HO HF HF7 HSORT HCM HOL HQ2 i8 i9 hj hjl
              go_wp2_with fail
              go_loopg [7, 14, 73] x6.length (fun q t7 t14 t73 wr => ∃ (k : Nat) (l5' : List P5) (sad' : Option Addr) (scp' : Nat) (ra : Option Addr) (rc : Nat) (rw9 : List Ar), q = x6.length - k ∧ k ≤ x6.length ∧ t73 = .int .i64 k ∧ rowF s.all ((x6.take k).map toM) = (l5'.map toP, rw9) ∧ t7 = .slice sad' l5'.length scp' ∧ t14 = .slice ra rw9.length rc ∧
                wr.ownsRow w.heap.size 67 5 (.slice sad' l5'.length scp') l5'.length (l5'.flatMap encP5) ∧ wr.ownsRow w9.heap.size 55 2 (.slice ra rw9.length rc) rw9.length (rw9.flatMap arE) ∧ KM p5V wr x (kvN l5') ∧ (∀ b, (Value.slice sad' l5'.length scp').ownBlock = some b → b = sg ∨ w9.heap.size ≤ b) ∧ (∀ b, (Value.slice sad' l5'.length scp').ownBlock = some b → (Value.slice ra rw9.length rc).ownBlock ≠ some b) ∧ Frm [x, sg] w9 wr)
              case atStart =>
                refine ⟨0, l5, _, _, none, 0, [], rfl, Nat.zero_le _, rfl, by rw [← HIS3.out.all]; rfl, rfl, rfl, HIS3.out.st, ⟨rfl, .inl ⟨rfl, rfl⟩⟩, HIS3.out.map, fun b hb => .inl (by simpa [Value.ownBlock] using hb.symm), fun b _ h9 => by simp [Value.ownBlock] at h9, Frm.refl _ _⟩
              case round =>
                obtain ⟨k, l5', sad', scp', ra, rc, rw9, hq3, hk, rfl, hrf, rfl, rfl, hst, hrow, hkm, hos, hon, hF3⟩ := hrel
                have HST := Lib.hid hst
                have HRW := Lib.hid hrow
                have HKM := Lib.hid hkm
                have HOS := Lib.hid hos
                have HON := Lib.hid hon
                have HF3 := Lib.hid hF3
                have HQ3 := Lib.hid hq3
                have HLN := Lib.hid (rf_len HIS3.out.ok.nodup hrf)
                have i11 : (0 : Int) ≤ (k : Int) := by omega
                have hl5' : (l5'.length : Int) ≤ 20000 := by have := HLN.out; have := HAL.out; omega
                clear hst hrow hkm hos hon hF3 hq3
                by_cases hkl : k < x6.length
                · have i12 : (k : Int) < (x6.length : Int) := by omega
                  obtain ⟨⟨ev, s', q0, q1, q2, q3⟩, hy⟩ : ∃ y, x6[k]? = some y := ⟨_, List.getElem?_eq_getElem hkl⟩
                  obtain ⟨lg, lcp, e0, hlg, _, _, _⟩ := ownsB_some HO9.out (by omega)
                  obtain ⟨rfl, rfl⟩ : ad = some ⟨lg, 0, none⟩ ∧ cp = lcp := by simpa using e0
                  have cx := cells6 HO9.out hy
                  unfold enc6 at cx
                  have hlgF : lg ∉ [x, sg] := by
                    intro hm
                    simp only [List.mem_cons, List.not_mem_nil, or_false] at hm
                    have := hxV.out
                    have := hsgV.out
                    omega
                  have a0 := HF3.out.cell (cx 0 _ (by omega) rfl) hlgF
                  have a1 := HF3.out.cell (cx 1 _ (by omega) rfl) hlgF
                  have a2 := HF3.out.cell (cx 2 _ (by omega) rfl) hlgF
                  have a3 := HF3.out.cell (cx 3 _ (by omega) rfl) hlgF
                  have a4 := HF3.out.cell (cx 4 _ (by omega) rfl) hlgF
                  have a5 := HF3.out.cell (cx 5 _ (by omega) rfl) hlgF
                  rw [Nat.add_zero] at a0
                  simp only at a0 a1 a2 a3 a4 a5
                  have hstep := rf_step hrf hy
                  have HSZ := Lib.hid HF3.out.size
                  have hxw : Hid (x < w9.heap.size) := Lib.hid (by have := hxV.out; have := HSZ9.out; omega)
                  clear cx e0 hlgF hrf
                  by_cases hmem : (s', q0, q1, q2, q3) ∈ l5'
                  · have hrf2 := Lib.hid (hstep.1 hmem)
                    have hga : getA (kvN l5') (s', q0, q1, q2, q3) = some (.int .i64 ((l5'.idxOf (s', q0, q1, q2, q3) : Nat) : Int)) := getA_kvN_some hmem 0
                    generalize l5'.idxOf (s', q0, q1, q2, q3) = num at *
                    have HG := Lib.hid hga
                    clear hstep hga hmem hy
                    go_wp2_with (first | (at_lookup; refine wpl_klook keyPl rfl _ _ _ rfl Tryz.underlying68 (zero_int _) x (kvN l5') rfl (HKM.out.frm ((Frm.refl [] wr).alloc _) (by simp)) (s', q0, q1, q2, q3) rfl ?_; rw [HG.out]) | (at_builtin; refine app_row rfl (.tmp 97) (.tmp 102) 51 55 _ 2 16 rfl Tryz.underlying51 infoAr rfl (by decide) (by decide) w9.heap.size rw9.length (.slice ra rw9.length rc) _ rfl ((HRW.out.alloc _).alloc _) _ 1 [.int .i64 ev, .int .i64 (num : Int)] [] rfl (rowV_cells (size := 2) (row_made1 _ _ 55 [.int .i64 ev, .int .i64 (num : Int)] #[.int .i64 ev, .int .i64 (num : Int)] rfl) rfl (Nat.le_refl _) (by decide) (by simp)) (arE_one [(ev, (num : Int))]) (rw9.length + 1) rfl (by have := HLN.out; omega) (by have := HSZ.out; simp; omega) ?_; intro a8 c8 w8 own8 hf8 hb8) | fail)
                    have F8 : Hid (Frm [x, sg] w9 w8) := Lib.hid (((HF3.out.alloc _).alloc _).trans hf8 (fun z hz => .inr (HRW.out.lt z (by simpa using hz)).1))
                    have HOW := Lib.hid own8
                    have HS8 := Lib.hid (ownsB_frm ((HST.out.alloc _).alloc _) hf8 (fun z hz => fun h9 => HON.out z hz (by simpa using h9)))
                    have HK8 := Lib.hid (HKM.out.frm (fp := (Value.slice ra rw9.length rc).ownBlock.toList) ((((Frm.refl _ wr).alloc _).alloc _).trans hf8 (fun z hz => .inl hz)) (fun hm => by have := (HRW.out.lt x (by simpa using hm)).1; have := hxw.out; omega))
                    have HB8 : Hid (∀ b, (Value.slice sad' l5'.length scp').ownBlock = some b → (Value.slice a8 (rw9.length + 1) c8).ownBlock ≠ some b) := Lib.hid fun b hb h9 => by
                      rcases hb8 b h9 with h9 | h9
                      · exact HON.out b hb h9
                      · have := (HST.out.lt b hb).2
                        rw [h9] at this
                        simp at this
                        omega
                    clear own8 hf8 hb8
                    go_wp2_with fail
                    go_roundg (x6.length - (k + 1))
                    case rel =>
                      refine ⟨k + 1, l5', sad', scp', a8, c8, rw9 ++ [(ev, (num : Int))], rfl, by omega, by go_num, hrf2.out, rfl, by simp, HS8.out, ?_, HK8.out, HOS.out, ?_, F8.out⟩
                      · have := HOW.out
                        simpa [List.flatMap_append, arE] using this
                      · simpa using HB8.out
                    case measure => have := HQ3.out; omega
                  · have hrf2 := Lib.hid (hstep.2 hmem)
                    have hga := getA_kvN_none hmem
                    have HG := Lib.hid hga
                    have BX := Lib.hid (RowAt.made wr 74 [.int .i64 ev, .int .i64 s', .int .i64 q0, .int .i64 q1, .int .i64 q2, .int .i64 q3] #[.int .i64 ev, .int .i64 s', .int .i64 q0, .int .i64 q1, .int .i64 q2, .int .i64 q3] rfl)
                    have hxwr : x < wr.heap.size := by have := hxw.out; have := HSZ.out; omega
                    have HXS : Hid (sg ≠ x) := Lib.hid (by
                      have := HIS3.out.os sg rfl
                      omega)
                    have HSN : Hid (∀ z ∈ (Value.slice sad' l5'.length scp').ownBlock.toList, z ≠ x ∧ (z = sg ∨ w9.heap.size ≤ z) ∧ z < wr.heap.size) := Lib.hid fun z hz => by
                      have h1 := HOS.out z (by simpa using hz)
                      have h2 := HST.out.lt z (by simpa using hz)
                      have := HXS.out
                      have := hxw.out
                      exact ⟨by omega, h1, h2.2⟩
                    have HRN : Hid (∀ z ∈ (Value.slice ra rw9.length rc).ownBlock.toList, w9.heap.size ≤ z ∧ z < wr.heap.size) := Lib.hid fun z hz => HRW.out.lt z (by simpa using hz)
                    clear hstep hga hmem hy
                    go_wp2_with (first
                      | (at_lookup; refine wpl_klook keyPl rfl _ _ _ rfl Tryz.underlying68 (zero_int _) x (kvN l5') rfl (HKM.out.frm ((Frm.refl [] wr).alloc _) (by simp)) (s', q0, q1, q2, q3) rfl ?_; rw [HG.out])
                      | (at_mapUpdate; refine wpl_kput keyPl rfl _ _ _ _ rfl Tryz.underlying68 x (kvN l5') rfl (HKM.out.frm ((Frm.refl [] wr).alloc _) (by simp)) (s', q0, q1, q2, q3) rfl (.int .i64 (l5'.length : Int)) rfl HG.out ?_; intro w4 hk4 hf4 hs4; have HK4 := Lib.hid hk4; have HF4 := Lib.hid hf4; have HS4 : Hid (w4.heap.size = wr.heap.size + 1) := Lib.hid (by rw [hs4]; simp); have BX4 := Lib.hid (BX.out.frm hf4 (by simp; omega)); have e0 := BX4.out.cell (i := 0) rfl; have e1 := BX4.out.cell (i := 1) rfl; have e2 := BX4.out.cell (i := 2) rfl; have e3 := BX4.out.cell (i := 3) rfl; have e4 := BX4.out.cell (i := 4) rfl; have e5 := BX4.out.cell (i := 5) rfl; have hlt4 : wr.heap.size < w4.heap.size := BX4.out.lt; clear hk4 hf4 hs4)
                      | (at_builtin; refine app_row rfl (.tmp 92) (.tmp 95) 69 67 _ 5 40 rfl Tryz.underlying69 infoPl rfl (by decide) (by decide) w.heap.size l5'.length (.slice sad' l5'.length scp') _ rfl ((ownsB_frm (HST.out.alloc _) HF4.out (fun z hz hm => (HSN.out z (by simpa using hz)).1 (by simpa using hm))).alloc _) _ 1 [.int .i64 s', .int .i64 q0, .int .i64 q1, .int .i64 q2, .int .i64 q3] [] rfl (rowV_cells (size := 5) (RowAt.made w4 67 [.int .i64 s', .int .i64 q0, .int .i64 q1, .int .i64 q2, .int .i64 q3] #[.int .i64 s', .int .i64 q0, .int .i64 q1, .int .i64 q2, .int .i64 q3] rfl) rfl (Nat.le_refl _) (by decide) (by simp)) (encP5_one [(s', q0, q1, q2, q3)]) (l5'.length + 1) rfl (by omega) (by have h1 := HFX3.out.f.size; have h2 := HSZ.out; have h3 := HS4.out; simp; omega) ?_; intro a6 c6 w6 own6 hf6 hb6; have HO6 := Lib.hid own6; have HF6 := Lib.hid hf6; have HB6 := Lib.hid hb6; have BX6 := Lib.hid ((BX4.out.alloc (.cells #[.int .i64 s', .int .i64 q0, .int .i64 q1, .int .i64 q2, .int .i64 q3] 67)).frm hf6 (fun hm => by have := (HSN.out _ hm).2.2; omega)); have g0 := BX6.out.cell (i := 0) rfl; clear own6 hf6 hb6)
                      | (at_builtin; refine app_row rfl (.tmp 97) (.tmp 102) 51 55 _ 2 16 rfl Tryz.underlying51 infoAr rfl (by decide) (by decide) w9.heap.size rw9.length (.slice ra rw9.length rc) _ rfl ((ownsB_frm ((ownsB_frm (HRW.out.alloc (.cells #[.int .i64 ev, .int .i64 s', .int .i64 q0, .int .i64 q1, .int .i64 q2, .int .i64 q3] 74)) HF4.out (fun z hz hm => by have := (HRN.out z (by simpa using hz)).1; have := hxw.out; simp at hm; omega)).alloc (.cells #[.int .i64 s', .int .i64 q0, .int .i64 q1, .int .i64 q2, .int .i64 q3] 67)) HF6.out (fun z hz hm => HON.out z (by simpa using hm) hz)).alloc _) _ 1 [.int .i64 ev, .int .i64 (l5'.length : Int)] [] rfl (rowV_cells (size := 2) (RowAt.made w6 55 [.int .i64 ev, .int .i64 (l5'.length : Int)] #[.int .i64 ev, .int .i64 (l5'.length : Int)] rfl) rfl (Nat.le_refl _) (by decide) (by simp)) (arE_one [(ev, (l5'.length : Int))]) (rw9.length + 1) rfl (by have := HLN.out; omega) (by have h1 := HSZ.out; have h2 := HF6.out.size; have h3 := HS4.out; simp at h2 ⊢; omega) ?_; intro a8 c8 w8 own8 hf8 hb8) | fail)
                    have SZ6 : Hid (wr.heap.size + 2 ≤ w6.heap.size) := Lib.hid (by have h1 := HF6.out.size; have h2 := HS4.out; simp at h1; omega)
                    have R4 := ownsB_frm (HRW.out.alloc (.cells #[.int .i64 ev, .int .i64 s', .int .i64 q0, .int .i64 q1, .int .i64 q2, .int .i64 q3] 74)) HF4.out (fun z hz hm => by have := (HRN.out z (by simpa using hz)).1; have := hxw.out; simp at hm; omega)
                    have F4 : Frm [x, sg] w9 w4 := (HF3.out.alloc _).trans HF4.out (fun z hz => .inl (by rw [List.mem_singleton.1 hz]; simp))
                    have F6 : Frm [x, sg] w9 w6 := (F4.alloc _).trans HF6.out (fun z hz => by
                      rcases (HSN.out z hz).2.1 with h9 | h9
                      · exact .inl (by rw [h9]; simp)
                      · exact .inr h9)
                    have F8 : Hid (Frm [x, sg] w9 w8) := Lib.hid ((F6.alloc _).trans hf8 (fun z hz => .inr (HRN.out z hz).1))
                    have HOW := Lib.hid own8
                    have HN6 : Hid (∀ b, (Value.slice a6 (l5'.length + 1) c6).ownBlock = some b → (b = sg ∨ w9.heap.size ≤ b) ∧ (Value.slice ra rw9.length rc).ownBlock ≠ some b ∧ b < w6.heap.size ∧ b ≠ x) := Lib.hid fun b hb => by
                      have hlt := (HO6.out.lt b hb).2
                      rcases HB6.out b hb with h9 | h9
                      · have h1 := HSN.out b (by simpa using h9)
                        exact ⟨h1.2.1, HON.out b h9, hlt, h1.1⟩
                      · have h2 := HS4.out
                        have h3 := HSZ.out
                        have h4 := hxw.out
                        simp at h9
                        refine ⟨.inr (by omega), fun h5 => ?_, hlt, by omega⟩
                        have := (HRN.out b (by simpa using h5)).2
                        omega
                    have HS8 := Lib.hid (ownsB_frm (HO6.out.alloc _) hf8 (fun z hz hm => (HN6.out z hz).2.1 (by simpa using hm)))
                    have K6 := (HK4.out.frm (fp := (Value.slice sad' l5'.length scp').ownBlock.toList) (((Frm.refl _ w4).alloc _).trans HF6.out (fun z hz => .inl hz)) (fun hm => (HSN.out x hm).1 rfl))
                    have HK8 := Lib.hid (K6.frm (fp := (Value.slice ra rw9.length rc).ownBlock.toList) (((Frm.refl _ w6).alloc _).trans hf8 (fun z hz => .inl hz)) (fun hm => by have := (HRN.out x hm).1; have := hxw.out; omega))
                    have HB8 : Hid (∀ b, (Value.slice a6 (l5'.length + 1) c6).ownBlock = some b → (Value.slice a8 (rw9.length + 1) c8).ownBlock ≠ some b) := Lib.hid fun b hb h9 => by
                      rcases hb8 b h9 with h9 | h9
                      · exact (HN6.out b hb).2.1 h9
                      · have := (HN6.out b hb).2.2.1
                        simp at h9
                        omega
                    clear own8 hf8 hb8 R4 F4 F6 K6 e0 e1 e2 e3 e4 e5 g0
                    go_wp2_with fail
                    go_roundg (x6.length - (k + 1))
                    case rel =>
                      refine ⟨k + 1, l5' ++ [(s', q0, q1, q2, q3)], a6, c6, a8, c8, rw9 ++ [(ev, (l5'.length : Int))], rfl, by omega, by go_num, hrf2.out, by simp, by simp, ?_, ?_, ?_, ?_, ?_, F8.out⟩
                      · have := HS8.out
                        simpa [List.flatMap_append, encP5] using this
                      · have := HOW.out
                        simpa [List.flatMap_append, arE] using this
                      · rw [kvN_snoc]
                        exact HK8.out
                      · intro b hb
                        exact (HN6.out b (by simpa using hb)).1
                      · simpa using HB8.out
                    case measure => have := HQ3.out; omega
                · have i12 : ¬ (k : Int) < (x6.length : Int) := by omega
                  have hkx : k = x6.length := by omega
                  rw [hkx, List.take_length] at hrf
                  have hbe := bstep_eq HPA.out HED.out hrf
                  have HPRE : Hid (s.all.length ≤ l5'.length) := Lib.hid (by
                    obtain ⟨r9, hpre⟩ := (rf HIS3.out.ok.nodup (x6.map toM)).pre
                    rw [hrf] at hpre
                    have := congrArg List.length hpre
                    simp only [List.length_map, List.length_append] at this
                    omega)
                  have hnd := row_nd HIS3.out.ok.nodup HED.out hrf
                  have hsr := row_sorted hnd
                  have hsl : (setG ltAr rw9).length = rw9.length := setG_len sto_Ar (fun _ => Iff.rfl) hnd
                  rw [hsl] at hbe
                  have hsort := sortAr_any w9.heap.size ra rc rw9.length rw9 wr HRW.out rfl (by have := HLN.out; omega)
                  rw [hsr] at hsort
                  obtain ⟨f', hf'⟩ : ∃ f', f = f' + 1 := ⟨f - 1, by have := HIS3.out.fuel; have := HIS3.out.few; have := HAL.out; omega⟩
                  have hgo := HIS3.out.go
                  rw [hf', instGo, if_pos (by have := HAL.out; omega)] at hgo
                  have HBS := Lib.hid (HIS3.out.ok.step HVM.out hn2 (show i < s.all.length by have := HAL.out; omega)).1
                  have HSORT := Lib.hid hsort
                  have HSL := Lib.hid hsl
                  have HBE := Lib.hid hbe
                  have HGO := Lib.hid hgo
                  have HFF := Lib.hid hf'
                  have HRN : Hid (∀ z ∈ (Value.slice ra rw9.length rc).ownBlock.toList, w9.heap.size ≤ z ∧ z < wr.heap.size) := Lib.hid fun z hz => HRW.out.lt z (by simpa using hz)
                  have htb : s.tot ≤ 262144 := HIS3.out.tot
                  have i13 : (rw9.length : Int) ≤ 192 := by have := HLN.out; omega
                  have i14 : IntKind.i64.wrap ((s.tot : Int) + (rw9.length : Int)) = ((s.tot + rw9.length : Nat) : Int) := by rw [IntWalk.i64_in _ (by omega)]; omega
                  clear hbe hnd hsr hsl hsort hgo hf' hrf hkx hk HQ3
                  go_wp2_with fail
                  refine HSORT.out.mono ?_
                  rintro e10 w10 ⟨⟨rfl, own10⟩, hf10⟩
                  have F3 := Lib.hid (HF3.out.trans hf10 (fun z hz => .inr (HRN.out z hz).1))
                  have FX10 := Lib.hid (HFX3.out.nil (fp := [x, sg]) F3.out (fun z hz => by
                    simp only [List.mem_cons, List.not_mem_nil, or_false] at hz
                    have := HIS3.out.os sg rfl
                    omega))
                  have ST10 := Lib.hid (ownsB_frm HST.out hf10 (fun z hz hm => HON.out z hz (by simpa using hm)))
                  have KM10 := Lib.hid (HKM.out.frm hf10 (fun hm => by have := (HRN.out x hm).1; have := hxV.out; have := HSZ9.out; omega))
                  have OW10 := Lib.hid own10
                  have SZ10 := Lib.hid hf10.size
                  have WSZ := Lib.hid HF3.out.size
                  have c1 := FX10.out.r.cell (i := 0) rfl
                  have z1 := FX10.out.r.frozen 0
                  have hgo := HGO.out
                  rw [HBE.out] at hgo
                  clear own10 hf10 HSORT
                  by_cases hfull : 16384 < l5'.length ∨ 262144 < s.tot + rw9.length
                  · have hfb : fullB ⟨l5'.map toP, s.rows ++ [setG ltAr rw9], s.tot + rw9.length⟩ = true := by
                      simp only [fullB, List.length_map, Bool.or_eq_true, decide_eq_true_eq]
                      exact hfull
                    rw [if_pos hfb] at hgo
                    have hfr : Frm [] w (w10.setCell ⟨w.heap.size + 1, 0, none⟩ (.slice none 0 0)) := FX10.out.f.setCell (.inr (by simp)) _
                    have HFI := Lib.hid (HEND.out (.returned (.tuple #[.agg #[.slice none 0 0], .int .i64 10])) _ (by rw [← hgo]) hfr)
                    have hcs := World.cell?_setCell_same' w10 ⟨w.heap.size + 1, 0, none⟩ (.slice none 0 0) (by rw [c1]; rfl)
                    clear hfr hfb hgo
                    by_cases hf1 : 16384 < l5'.length
                    · have j1 : (16384 : Int) < (l5'.length : Int) := by omega
                      clear hfull
                      go_wp2_with fail
                      refine bodyPost_ret (v := .tuple #[.agg #[.slice none 0 0], .int .i64 10]) (by simp [results, Tryz.results14, go_sem, hcs]) rfl ?_
                      exact HFI.out
                    · have j1 : ¬ (16384 : Int) < (l5'.length : Int) := by omega
                      have j2 : (262144 : Int) < ((s.tot + rw9.length : Nat) : Int) := by omega
                      clear hfull
                      go_wp2_with fail
                      refine bodyPost_ret (v := .tuple #[.agg #[.slice none 0 0], .int .i64 10]) (by simp [results, Tryz.results14, go_sem, hcs]) rfl ?_
                      exact HFI.out
                  · have hfb : ¬ fullB ⟨l5'.map toP, s.rows ++ [setG ltAr rw9], s.tot + rw9.length⟩ = true := by
                      simp only [fullB, List.length_map, Bool.or_eq_true, decide_eq_true_eq]
                      exact hfull
                    rw [if_neg hfb] at hgo
                    have j1 : ¬ (16384 : Int) < (l5'.length : Int) := by omega
                    have j2 : ¬ (262144 : Int) < ((s.tot + rw9.length : Nat) : Int) := by omega
                    have HGO2 := Lib.hid hgo
                    have HNF := Lib.hid hfull
                    clear hgo hfull hfb c1 z1
                    obtain ⟨vs, hov, hovF, hvs1, hvin⟩ := HIS0.out.out
                    have hvsl : vs.length = s.rows.length := by have := hov.1; omega
                    have HVF : Hid (Frm [x, sg] V w10) := Lib.hid ((HF9.out.mono (fq := [x, sg]) (by simp)).trans F3.out (fun z hz => .inl hz))
                    have HON0 : Hid (∀ z ∈ (Value.slice oad s.rows.length ocp).ownBlock.toList, x + 3 ≤ z ∧ z < V.heap.size ∧ z ≠ sg) := Lib.hid fun z hz => by
                      have hz' : (Value.slice oad s.rows.length ocp).ownBlock = some z := by simpa using hz
                      exact ⟨HIS0.out.oo z hz', (hov.lt z hz').2, fun e => HIS0.out.on sg rfl (by rw [← e]; exact hz')⟩
                    have OV10 := Lib.hid (ownsB_frm hov HVF.out (fun z hz hm => by
                      have := HON0.out z (by simpa using hz)
                      simp only [List.mem_cons, List.not_mem_nil, or_false] at hm
                      omega))
                    have bx10 := HIS0.out.box.frm HVF.out (fun hm => by
                      simp only [List.mem_cons, List.not_mem_nil, or_false] at hm
                      have := HIS0.out.os sg rfl
                      omega)
                    have BX10 := Lib.hid bx10
                    have b0 := bx10.cell (i := 0) rfl
                    have zb := bx10.frozen 0
                    have hbl : x + 1 + 1 < w10.heap.size := bx10.lt
                    have HVIN := Lib.hid hvin
                    have HVS1 := Lib.hid hvs1
                    have HVSL := Lib.hid hvsl
                    have hfew : s.rows.length ≤ 16384 := by have := HIS0.out.ok.rows; have := HIS0.out.few; have := HIS0.out.le; omega
                    have HFEW := Lib.hid hfew
                    clear hov hovF hvs1 hvin hvsl bx10 hfew
                    go_wp2_with (first
                      | (at_builtin; refine app_row rfl (.tmp 120) (.tmp 122) 23 51 _ 1 24 rfl Tryz.underlying23 infoRw rfl (by decide) (by decide) w.heap.size s.rows.length (.slice oad s.rows.length ocp) _ rfl (OV10.out.alloc _) _ 1 [.slice ra rw9.length rc] [] rfl (rowV_cells (size := 1) (RowAt.made w10 51 [.slice ra rw9.length rc] #[.slice ra rw9.length rc] rfl) rfl (Nat.le_refl _) (by decide) (by simp)) (by simp [Value.oneCell']) (s.rows.length + 1) rfl (by have := HFEW.out; omega) (by have := FX10.out.f.size; simp; omega) ?_; intro a11 c11 w11 own11 hf11 hb11; have O11 := Lib.hid own11; have F11 := Lib.hid hf11; have B11 := Lib.hid hb11; have bx11 := ((BX10.out.alloc (.cells #[.slice ra rw9.length rc] 51)).frm hf11 (fun hm => by have := (HON0.out _ hm).1; omega)); have BX11 := Lib.hid bx11; have b1 := bx11.cell (i := 0) rfl; have zb1 := bx11.frozen 0; clear own11 hf11 hb11 bx11)
                      | fail)
                    have OVO : Hid (∀ z, (Value.slice a11 (s.rows.length + 1) c11).ownBlock = some z → z ∈ (Value.slice oad s.rows.length ocp).ownBlock.toList ∨ z = w10.heap.size + 1) := Lib.hid fun z hz => by
                      rcases B11.out z hz with h9 | h9
                      · exact .inl (by simpa using h9)
                      · exact .inr (by simpa using h9)
                    have FA : Hid (Frm ((x + 1 + 1) :: (Value.slice oad s.rows.length ocp).ownBlock.toList) w10 (w11.setCell ⟨x + 1 + 1, 0, none⟩ (.slice a11 (s.rows.length + 1) c11))) := Lib.hid ((((Frm.refl _ w10).alloc _).trans F11.out (fun z hz => .inl (List.mem_cons_of_mem _ hz))).setCell (p := ⟨x + 1 + 1, 0, none⟩) (.inl List.mem_cons_self) _)
                    have FB : Hid (Frm (x :: sg :: (x + 1 + 1) :: (Value.slice oad s.rows.length ocp).ownBlock.toList) V (w11.setCell ⟨x + 1 + 1, 0, none⟩ (.slice a11 (s.rows.length + 1) c11))) := Lib.hid ((HVF.out.mono (by simp)).trans FA.out (fun z hz => .inl (List.mem_cons_of_mem _ (List.mem_cons_of_mem _ hz))))
                    have HSVL : Hid (∀ z, (Value.slice sad' l5'.length scp').ownBlock = some z → (z = sg ∨ w9.heap.size ≤ z) ∧ z < w10.heap.size) := Lib.hid fun z hz => ⟨HOS.out z hz, (ST10.out.lt z hz).2⟩
                    have hsg3 := HIS0.out.os sg rfl
                    have hn9 : ∀ z, (Value.slice sad' l5'.length scp').ownBlock = some z → z ∉ (x + 1 + 1) :: (Value.slice oad s.rows.length ocp).ownBlock.toList := fun z hz hm => by
                      have h1 := HSVL.out z hz
                      have h2 := HSZ9.out
                      have h3 := hxV.out
                      rcases List.mem_cons.1 hm with h9 | h9
                      · omega
                      · have := HON0.out z h9
                        omega
                    have hxn : x ∉ (x + 1 + 1) :: (Value.slice oad s.rows.length ocp).ownBlock.toList := fun hm => by
                      rcases List.mem_cons.1 hm with h9 | h9
                      · omega
                      · have := HON0.out x h9
                        omega
                    have NST := Lib.hid (ownsB_frm ST10.out FA.out hn9)
                    have NKM := Lib.hid (KM10.out.frm FA.out hxn)
                    have NFX := Lib.hid (FX10.out.nil FA.out (fun z hz => by
                      rcases List.mem_cons.1 hz with h9 | h9
                      · omega
                      · have := HON0.out z h9
                        omega))
                    have NBX := Lib.hid (BX11.out.setCell 0 (.slice a11 (s.rows.length + 1) c11))
                    have NOV := Lib.hid (ownsB_frm O11.out ((Frm.refl [x + 1 + 1] w11).setCell (p := ⟨x + 1 + 1, 0, none⟩) (.inl (by simp)) (.slice a11 (s.rows.length + 1) c11)) (fun z hz hm => by
                      rw [List.mem_singleton] at hm
                      rcases OVO.out z hz with h9 | h9
                      · have := HON0.out z h9
                        omega
                      · omega))
                    have NROW : Hid (RowV (w11.setCell ⟨x + 1 + 1, 0, none⟩ (.slice a11 (s.rows.length + 1) c11)) (turnF (w.heap.size + 1) x (.slice sad' l5'.length scp') (.slice a11 (s.rows.length + 1) c11)) (.slice ra rw9.length rc) rw9.length 2 ((setG ltAr rw9).flatMap arE)) := Lib.hid (by
                      have hv : RowV w10 ((x + 1 + 1) :: ((Value.slice oad s.rows.length ocp).ownBlock.toList ++ turnF (w.heap.size + 1) x (.slice sad' l5'.length scp') (.slice oad s.rows.length ocp))) (.slice ra rw9.length rc) rw9.length 2 ((setG ltAr rw9).flatMap arE) := rowV_of_owns OW10.out (fun z hz e => by
                        have h1 := HRN.out z (by simpa using e)
                        have h2 := HSZ9.out
                        have h3 := hxV.out
                        have h4 := FX10.out.x
                        simp only [turnF, List.mem_cons, List.mem_append, Option.mem_toList] at hz
                        rcases hz with h9 | h9 | h9 | h9 | h9 | h9 | h9
                        · omega
                        · have := (HON0.out z (by simpa using h9)).2.1
                          omega
                        · omega
                        · omega
                        · omega
                        · exact HON.out z h9 e
                        · have := (HON0.out z (by simpa using h9)).2.1
                          omega)
                      refine hv.step FA.out (fun z hz => .inl (by
                        rcases List.mem_cons.1 hz with h9 | h9
                        · rw [h9]; exact List.mem_cons_self
                        · exact List.mem_cons_of_mem _ (List.mem_append_left _ h9))) (fun z hz => ?_)
                      simp only [turnF, List.mem_cons, List.mem_append, Option.mem_toList] at hz
                      rcases hz with h9 | h9 | h9 | h9 | h9
                      · exact .inl (by simp [turnF, h9])
                      · exact .inl (by simp [turnF, h9])
                      · exact .inl (by simp [h9])
                      · exact .inl (List.mem_cons_of_mem _ (List.mem_append_right _ (by simp [turnF, h9])))
                      · rcases OVO.out z h9 with h8 | h8
                        · exact .inl (List.mem_cons_of_mem _ (List.mem_append_left _ h8))
                        · exact .inr (by omega))
                    have NLT : Hid (LtsOwn (w11.setCell ⟨x + 1 + 1, 0, none⟩ (.slice a11 (s.rows.length + 1) c11)) w.heap.size (turnF (w.heap.size + 1) x (.slice sad' l5'.length scp') (.slice a11 (s.rows.length + 1) c11)) (.slice a11 (s.rows.length + 1) c11) (s.rows ++ [setG ltAr rw9])) := Lib.hid (lts_next FB.out (fun z hz => by
                        simp only [List.mem_cons] at hz
                        rcases hz with h9 | h9 | h9 | h9
                        · exact .inl (by simp [turnF, h9])
                        · exact .inl (by simp [turnF, h9, Value.ownBlock])
                        · exact .inl (by simp [turnF, h9])
                        · exact .inl (by simp only [turnF, List.mem_cons, List.mem_append]; exact .inr (.inr (.inr (.inr h9))))) (fun z hz => by
                        simp only [turnF, List.mem_cons, List.mem_append, Option.mem_toList] at hz
                        rcases hz with h9 | h9 | h9 | h9 | h9
                        · exact .inl (by simp [turnF, h9])
                        · exact .inl (by simp [turnF, h9])
                        · exact .inl (by simp [turnF, h9])
                        · rcases (HSVL.out z h9).1 with h8 | h8
                          · exact .inl (by simp [turnF, h8, Value.ownBlock])
                          · exact .inr (by have := HSZ9.out; omega)
                        · rcases OVO.out z h9 with h8 | h8
                          · exact .inl (by simp only [turnF, List.mem_cons, List.mem_append]; exact .inr (.inr (.inr (.inr h8))))
                          · exact .inr (by have := HSZ9.out; have := WSZ.out; have := SZ10.out; omega)) ⟨vs, HVIN.out, HVS1.out, HVSL.out, NOV.out⟩ (fun z hz => by
                        simp only [turnF, List.mem_cons, List.mem_append, Option.mem_toList]
                        exact .inr (.inr (.inr (.inr hz)))) rfl (by rw [HSL.out]; exact NROW.out))
                    clear hn9 hxn b0 zb b1 zb1 j1 j2
                    go_roundg f'
                    case rel =>
                      have hbs := HBS.out
                      have hgo2 := HGO2.out
                      have hnf := HNF.out
                      have hbe := HBE.out
                      refine ⟨f', i + 1, bstep m nn s i, l5', .slice a11 (s.rows.length + 1) c11, rfl, NFX.out, ?_, ?_, by go_num⟩
                      · rw [hbe] at hbs ⊢
                        refine ⟨rfl, hbs, ?_, ?_, ?_, ?_, hgo2, NST.out, NKM.out, NBX.out, NLT.out, ?_, ?_, ?_, ?_⟩
                        · have h1 := HPRE.out
                          have h2 := HAL.out
                          show i + 1 ≤ (l5'.map toP).length
                          rw [List.length_map]; omega
                        · show (l5'.map toP).length ≤ 16384
                          rw [List.length_map]; omega
                        · show s.tot + rw9.length ≤ 262144
                          omega
                        · have h1 := HIS0.out.fuel
                          have h2 := HFF.out
                          omega
                        · intro z hz
                          rcases (HSVL.out z hz).1 with h9 | h9
                          · rw [h9]; exact hsg3
                          · have := HSZ9.out
                            have := hxV.out
                            exact .inr (by omega)
                        · intro z hz
                          rcases OVO.out z hz with h9 | h9
                          · exact (HON0.out z h9).1
                          · omega
                        · intro z hz h9
                          have h1 := HSVL.out z hz
                          rcases OVO.out z h9 with h8 | h8
                          · have := HON0.out z h8
                            have := HSZ9.out
                            omega
                          · omega
                        · have := FB.out.size
                          have := HIS0.out.sz
                          omega
                      · rw [hbe]
                        first | rfl | go_num
                    case measure => have h1 := HFF.out; have h2 := HQ.out; omega
        · have i5 : ¬ (i : Int) < (l5.length : Int) := by omega
          have hRR : R = some s.rows := by
            have h1 := HIS.out.go
            have h2 := HIS.out.fuel
            obtain ⟨f', hf'⟩ : ∃ f', f = f' + 1 := ⟨f - 1, by omega⟩
            rw [hf', instGo, if_neg (by have := HAL.out; omega)] at h1
            exact h1.symm
          have c0 := HIS.out.box.cell (i := 0) rfl
          have c1 := HFX.out.r.cell (i := 0) rfl
          have z1 := HFX.out.r.frozen 0
          have hsh := lts_shut HIS.out HFX.out.x (.slice oad s.rows.length ocp)
          have hfr : Frm [] w (wr.setCell ⟨w.heap.size + 1, 0, none⟩ (.slice oad s.rows.length ocp)) := HFX.out.f.setCell (.inr (by simp)) _
          have HFI := Lib.hid (HEND.out (.returned (.tuple #[.agg #[.slice oad s.rows.length ocp], .int .i64 0])) _ (by rw [hRR]; exact ⟨_, rfl, hsh⟩) hfr)
          have hcs := World.cell?_setCell_same' wr ⟨w.heap.size + 1, 0, none⟩ (.slice oad s.rows.length ocp) (by rw [c1]; rfl)
          have hne : w.heap.size + 1 ≠ x + 1 + 1 := by have := HFX.out.x; omega
          clear hRR hsh hfr
          go_wp2_with fail
          refine bodyPost_ret (v := .tuple #[.agg #[.slice oad s.rows.length ocp], .int .i64 0]) (by simp [results, Tryz.results14, go_sem, hcs]) rfl ?_
          exact HFI.out
    · rw [hvm] at hval
      have HV := Lib.hid hval
      have hor : n < 1 ∨ (¬ n < 1 ∧ 12 < n) := by omega
      clear hval
      rcases hor with c1 | ⟨c1, c2⟩
      · have f0 : Frm [] w ((w.alloc (.cells #[.int .i64 m.regs, .int .i64 m.data, .int .i64 m.plain, .slice sa m.states.length sc] 30)).alloc (.cells #[.slice none 0 0] 25)) := ((Frm.refl [] w).alloc _).alloc _
        have hb1 := row_made1 w (.cells #[.int .i64 m.regs, .int .i64 m.data, .int .i64 m.plain, .slice sa m.states.length sc] 30) 25 [.slice none 0 0] #[.slice none 0 0] rfl
        have HB1 := Lib.hid hb1
        have HEND : Hid (∀ w', Frm [] w w' → InstEnd w m n (.returned (.tuple #[.agg #[.slice none 0 0], .int .i64 1])) w') := Lib.hid fun w' hf => ⟨by rw [if_neg (fun h9 => hn h9.2)], hf⟩
        clear hb1
        unfold machV
        go_enter Tryz.func14, Tryz.ntmps14
        go_wp2_with fail
        refine (HV.out _ f0).mono ?_
        rintro e1 w1 ⟨rfl, hf1⟩
        have r1 := HB1.out.frm hf1 (by simp)
        have cc1 := r1.cell (i := 0) rfl
        have z1 := r1.frozen 0
        have hcs := World.cell?_setCell_same' w1 ⟨w.heap.size + 1, 0, none⟩ (.slice none 0 0) (by rw [cc1]; rfl)
        have HFI := Lib.hid (HEND.out _ ((f0.trans hf1 (by simp)).setCell (p := ⟨w.heap.size + 1, 0, none⟩) (.inr (by simp)) (.slice none 0 0)))
        clear f0 hf1 r1
        go_wp2_with fail
        refine bodyPost_ret (v := .tuple #[.agg #[.slice none 0 0], .int .i64 1]) (by simp [results, Tryz.results14, go_sem, hcs]) rfl ?_
        exact HFI.out
      · have f0 : Frm [] w ((w.alloc (.cells #[.int .i64 m.regs, .int .i64 m.data, .int .i64 m.plain, .slice sa m.states.length sc] 30)).alloc (.cells #[.slice none 0 0] 25)) := ((Frm.refl [] w).alloc _).alloc _
        have hb1 := row_made1 w (.cells #[.int .i64 m.regs, .int .i64 m.data, .int .i64 m.plain, .slice sa m.states.length sc] 30) 25 [.slice none 0 0] #[.slice none 0 0] rfl
        have HB1 := Lib.hid hb1
        have HEND : Hid (∀ w', Frm [] w w' → InstEnd w m n (.returned (.tuple #[.agg #[.slice none 0 0], .int .i64 1])) w') := Lib.hid fun w' hf => ⟨by rw [if_neg (fun h9 => hn h9.2)], hf⟩
        clear hb1
        unfold machV
        go_enter Tryz.func14, Tryz.ntmps14
        go_wp2_with fail
        refine (HV.out _ f0).mono ?_
        rintro e1 w1 ⟨rfl, hf1⟩
        have r1 := HB1.out.frm hf1 (by simp)
        have cc1 := r1.cell (i := 0) rfl
        have z1 := r1.frozen 0
        have hcs := World.cell?_setCell_same' w1 ⟨w.heap.size + 1, 0, none⟩ (.slice none 0 0) (by rw [cc1]; rfl)
        have HFI := Lib.hid (HEND.out _ ((f0.trans hf1 (by simp)).setCell (p := ⟨w.heap.size + 1, 0, none⟩) (.inr (by simp)) (.slice none 0 0)))
        clear f0 hf1 r1
        go_wp2_with fail
        refine bodyPost_ret (v := .tuple #[.agg #[.slice none 0 0], .int .i64 1]) (by simp [results, Tryz.results14, go_sem, hcs]) rfl ?_
        exact HFI.out

end Go.Proofs.YtdknbgejhhoaiaaGreat.Ind
