/- Contract of independence.Permute. (Printed by wip/tools/s5.py.) -/
import Derived.Test.YtdknbgejhhoaiaaGreatQ37
import Derived.Test.YtdknbgejhhoaiaaGreatQ38
import Derived.Test.YtdknbgejhhoaiaaGreatQ28
import Derived.Test.YtdknbgejhhoaiaaGreatQ31
namespace Go.Proofs.YtdknbgejhhoaiaaGreat.Ind
open Go.Shelf Go.RowKit Go.Lib

/-- The event that stands for e when the values are permuted. -/
def permE (dn n : Nat) (p : List Int) (e : Int) : Int := if 2 ≤ e ∧ e < 2 + (dn : Int) then 2 + (e - 2) / (n : Int) * (n : Int) + p[((e - 2) % (n : Int)).toNat]?.getD 0 else e
def permA (dn n : Nat) (p : List Int) (a : Ar) : Ar := (permE dn n p a.1, a.2)
def permW (dn n : Nat) (p : List Int) (row : List Ar) : List Ar := row.map (permA dn n p)
/-- Some event is none of the machine's. -/
def bigW (lim : Int) (row : List Ar) : Bool := row.any fun a => decide (lim ≤ a.1)
def bigE (lim : Int) (l : Lts) : Bool := l.any (bigW lim)
theorem perm_ok {n N dn : Nat} {p : List Int} (h12 : n ≤ 12) (h1 : 1 ≤ n) (hd : dn ≤ 96) (hp : PermP p n) {a : Ar} (h : Go.Proofs.YtdknbgejhhoaiaaGreat.arcOk N a = true) : Go.Proofs.YtdknbgejhhoaiaaGreat.arcOk N (permA dn n p a) = true := by
  obtain ⟨h2, h3, h4, h5⟩ := arcOk_true h
  refine arcOk_of ?_ ?_ h4 h5
  all_goals
    simp only [permE]
    split
    · rename_i hin
      have hm0 : 0 ≤ (a.1 - 2) % (n : Int) := Int.emod_nonneg _ (by omega)
      have hm1 : (a.1 - 2) % (n : Int) < n := Int.emod_lt_of_pos _ (by omega)
      have hv : 0 ≤ p[((a.1 - 2) % (n : Int)).toNat]?.getD 0 ∧ p[((a.1 - 2) % (n : Int)).toNat]?.getD 0 < (n : Int) := by
        obtain ⟨x, hx⟩ : ∃ x, p[((a.1 - 2) % (n : Int)).toNat]? = some x := ⟨_, List.getElem?_eq_getElem (by rw [hp.1]; omega)⟩
        rw [hx]
        have := hp.2.2.1 x (by rw [List.take_length]; exact List.mem_of_getElem? hx)
        simpa using this
      have hq0 : 0 ≤ (a.1 - 2) / (n : Int) * (n : Int) := Int.mul_nonneg (Int.ediv_nonneg (by omega) (by omega)) (by omega)
      have hq1 := Int.mul_ediv_add_emod (a.1 - 2) (n : Int)
      rw [Int.mul_comm] at hq1
      omega
    · omega
theorem perm_looseGo {n N dn : Nat} {p : List Int} (h12 : n ≤ 12) (h1 : 1 ≤ n) (hd : dn ≤ 96) (hp : PermP p n) : ∀ (c : Nat) (l : Lts), looseGo N c l = true → looseGo N c (l.map (permW dn n p)) = true
  | _, [], _ => rfl
  | c, row :: r, h => by
    simp only [looseGo, Bool.and_eq_true, decide_eq_true_eq] at h
    simp only [List.map_cons, looseGo, Bool.and_eq_true, decide_eq_true_eq, permW, List.length_map]
    refine ⟨h.1, ?_, perm_looseGo h12 h1 hd hp _ r h.2.2⟩
    rw [List.all_eq_true]
    intro x hx
    obtain ⟨y, hy, rfl⟩ := List.mem_map.1 hx
    exact perm_ok h12 h1 hd hp (List.all_eq_true.1 h.2.1 y hy)
theorem perm_loose {n dn : Nat} {p : List Int} (h12 : n ≤ 12) (h1 : 1 ≤ n) (hd : dn ≤ 96) (hp : PermP p n) {l : Lts} (h : looseB l = true) : looseB (l.map (permW dn n p)) = true := by
  simp only [looseB, Bool.and_eq_true, decide_eq_true_eq] at h ⊢
  rw [List.length_map]
  exact ⟨h.1, perm_looseGo h12 h1 hd hp _ _ h.2⟩
/-- When Permute does its work. -/
def PermOk (m : RM) (n : Nat) (p : List Int) (l : Lts) : Prop := validM m = true ∧ PermP p n ∧ validB l = true ∧ bigE (2 + m.data * n + m.plain) l = false
/-- What Permute hands back. -/
def PermEnd (w : World) (m : RM) (n : Nat) (p : List Int) (l : Lts) (e : Ending) (w' : World) : Prop :=
  ((PermOk m n p l ∧ ∃ ov, e = .returned (.tuple #[.agg #[ov], .int .i64 0]) ∧ LtsAt w' [] ov (canB (l.map (permW (m.data * n).toNat n p))).out) ∨ (¬ PermOk m n p l ∧ e = .returned (.tuple #[.agg #[.slice none 0 0], .int .i64 1]))) ∧ Frm [] w w'
/-- Rows that the call owns are rows to be read. -/
theorem outC_lts {w : World} {v : Value} {us : List Value} {rows : List (List Ar)} (h : (outC v us rows).P w) : LtsAt w [] v rows := by
  obtain ⟨h1, _, h3⟩ := h
  refine ⟨us, rowV_of_owns h1 (by simp), fun i r hr => ?_⟩
  obtain ⟨u, hu, ho⟩ := h3 i r hr
  exact ⟨u, hu, rowV_of_owns ho (by simp)⟩
/-- Rows that the call owns are a system to be read. -/
theorem outC_lat {w : World} {v : Value} {a : Option Addr} {c : Nat} {us : List Value} {rows : List (List Ar)} (hv : v = .slice a rows.length c) (h : (outC v us rows).P w) (hl : rows.length ≤ 140737488355328) (hr : ∀ row ∈ rows, row.length ≤ 140737488355328) : LAt w.heap.size w a c rows := by
  subst hv
  obtain ⟨h1, _, h3⟩ := h
  have hrd : Rd w.heap.size w a rows.length c 1 us := rd_of_owns h1 (Nat.le_refl _)
  refine ⟨hrd.2, hrd.3, hl, fun i row hi => ?_⟩
  obtain ⟨u, hu, ho⟩ := h3 i row hi
  obtain ⟨b, o, e, hb, hc⟩ := hrd.4 i u hu
  obtain ⟨ra, rc, e2, _⟩ := owns_shape ho
  subst e2
  refine ⟨b, o, ra, rc, e, hb, hc, ?_⟩
  have hrd2 : Rd w.heap.size w ra row.length rc 2 (row.flatMap arE) := rd_of_owns ho (Nat.le_refl _)
  refine ⟨hrd2.2, hrd2.3, hr row (List.mem_of_getElem? hi), fun j e' t hj => ?_⟩
  have g0 := flatMap_get (enc := arE) (k := 2) (fun _ => rfl) hj 0 (by decide)
  have g1 := flatMap_get (enc := arE) (k := 2) (fun _ => rfl) hj 1 (by decide)
  obtain ⟨b0, o0, e0, hb0, hc0⟩ := hrd2.4 (j * 2) (.int .i64 e') (by rw [Nat.add_zero] at g0; rw [g0]; rfl)
  obtain ⟨b1, o1, e1, _, hc1⟩ := hrd2.4 (j * 2 + 1) (.int .i64 t) (by rw [g1]; rfl)
  rw [e0] at e1
  simp only [Option.some.injEq, Addr.mk.injEq, and_true] at e1
  obtain ⟨rfl, rfl⟩ := e1
  exact ⟨b0, o0, e0, hb0, hc0, by rw [Nat.add_assoc]; exact hc1⟩
/-- make([][]api.Arc, n). -/
theorem wpl_make_rowsC (w : World) {ops : Array Oper} {rest : List Oper} {o : Oper} {a : Act} {Q : Exit → Act → World → Prop}
    (hg : o.guard = none) (l : Operand) (hop : o.op = Op.makeSlice 23 l l) (L : Int) (n : Nat) (hl : a.eval l = .int .i64 L) (hL : L = (n : Int)) (hn : n ≤ 100000)
    (hK : ∀ w', (outC (.slice (some ⟨w.heap.size, 0, none⟩) n n) (List.replicate n (.slice none 0 0)) (List.replicate n [])).P w' → Frm [] w w' → wpList Tryz.prog ops Q rest (a.put o.dst (.slice (some ⟨w.heap.size, 0, none⟩) n n)) w') :
    wpList Tryz.prog ops Q (o :: rest) a w := by
  obtain ⟨i0, hi, hz0, hz1, hz2⟩ := info_parts infoRow
  refine wpList_make_full w hg l l 23 hop 0 51 i0 (.slice none 0 0) 1 Tryz.underlying23 hi hz0 hz1 .i64 .i64 L L n hl hl hL hL (by rw [hz2]; omega) (by unfold maxLen; omega) (Nat.zero_le _) ?_
  intro w' hown hgr
  refine hK w' ⟨?_, ⟨fun u hu => ?_, fun i j u v hu hv k hk => ?_⟩, fun i r hr => ?_⟩ ((Frm.refl [] w).grown hgr (by simp))
  · have hm : (madeCells (Value.slice none 0 0).cells (n * 1)).toList = List.replicate n (.slice none 0 0) := by
      rw [Nat.mul_one]
      exact toList_madeCells_one _ _
    rw [hm] at hown
    rw [List.length_replicate]
    exact hown
  · rw [(List.mem_replicate.1 hu).2]; rfl
  · rw [(List.mem_replicate.1 (List.mem_of_getElem? hu)).2] at hk
    simp [Value.ownBlock] at hk
  · have hil := (List.getElem?_eq_some_iff.1 hr).1
    rw [List.length_replicate] at hil
    have hr0 : r = [] := (List.mem_replicate.1 (List.mem_of_getElem? hr)).2
    subst hr0
    exact ⟨.slice none 0 0, by rw [List.getElem?_replicate, if_pos hil], rfl, .inl ⟨rfl, rfl⟩⟩
theorem perm_val {dn n e : Nat} {p : List Int} {pv ev : Int} (h1 : 1 ≤ n) (h12 : n ≤ 12) (he : ev - 2 = (e : Int)) (hlt : ev < 2 + (dn : Int)) (hdn : dn ≤ 96) (hpv : p[e % n]? = some pv) (hp : PermP p n) : RowKit.wrap64 (RowKit.wrap64 (2 + RowKit.wrap64 (RowKit.wrap64 ((e : Int) / (n : Int)) * (n : Int))) + pv) = permE dn n p ev := by
  have hv := hp.2.2.1 pv (by rw [List.take_length]; exact List.mem_of_getElem? hpv)
  have hv0 := hv.1
  have hv1 := hv.2
  have e1 : (e : Int) / (n : Int) = ((e / n : Nat) : Int) := (Int.natCast_ediv e n).symm
  have e2 : (e : Int) % (n : Int) = ((e % n : Nat) : Int) := (Int.natCast_emod e n).symm
  have h3 : e / n ≤ e := Nat.div_le_self _ _
  have h5 : (0 : Int) ≤ ((e / n : Nat) : Int) := Int.natCast_nonneg _
  have h6 : (0 : Int) ≤ ((e / n * n : Nat) : Int) := Int.natCast_nonneg _
  have h4 : e / n * n ≤ e := Nat.div_mul_le_self _ _
  have e3 : ((e / n : Nat) : Int) * (n : Int) = ((e / n * n : Nat) : Int) := (Int.natCast_mul _ _).symm
  rw [permE, if_pos ⟨by omega, hlt⟩, he, e2, Int.toNat_natCast, hpv, e1, IntWalk.wrap64_in ((e / n : Nat) : Int) (by omega), e3, IntWalk.wrap64_in ((e / n * n : Nat) : Int) (by omega), IntWalk.wrap64_in (2 + ((e / n * n : Nat) : Int)) (by omega), IntWalk.wrap64_in (2 + ((e / n * n : Nat) : Int) + pv) (by omega)]
  rfl
/-- The rows when k of them are done, and j arcs of the next. -/
def doneW (dn n : Nat) (p : List Int) (l : Lts) (k : Nat) (nx : List Ar) : List (List Ar) := (l.take k).map (permW dn n p) ++ nx :: List.replicate (l.length - (k + 1)) []
def doneL (dn n : Nat) (p : List Int) (l : Lts) (k : Nat) : List (List Ar) := (l.take k).map (permW dn n p) ++ List.replicate (l.length - k) []
theorem done_open {dn n : Nat} {p : List Int} {l : Lts} {k : Nat} (h : k < l.length) : doneL dn n p l k = doneW dn n p l k [] := by
  unfold doneL doneW
  rw [show l.length - k = (l.length - (k + 1)) + 1 by omega, List.replicate_succ]
theorem done_shut {dn n : Nat} {p : List Int} {l : Lts} {k : Nat} {row : List Ar} (h : l[k]? = some row) : doneW dn n p l k (permW dn n p row) = doneL dn n p l (k + 1) := by
  unfold doneL doneW
  rw [take_snoc h, List.map_append]
  simp
theorem done_all {dn n : Nat} {p : List Int} {l : Lts} : doneL dn n p l l.length = l.map (permW dn n p) := by simp [doneL]
theorem doneW_at {dn n : Nat} {p : List Int} {l : Lts} {k : Nat} {nx : List Ar} (h : k < l.length) : (doneW dn n p l k nx)[k]? = some nx := by
  unfold doneW
  rw [List.getElem?_append_right (by rw [List.length_map, List.length_take]; omega), List.length_map, List.length_take, Nat.min_eq_left (by omega), Nat.sub_self]
  rfl
theorem doneW_set {dn n : Nat} {p : List Int} {l : Lts} {k : Nat} {nx ny : List Ar} (h : k < l.length) : (doneW dn n p l k nx).set k ny = doneW dn n p l k ny := by
  unfold doneW
  have hl : ((l.take k).map (permW dn n p)).length = k := by rw [List.length_map, List.length_take]; omega
  have := set_mid ((l.take k).map (permW dn n p)) (List.replicate (l.length - (k + 1)) []) nx ny
  rw [hl] at this
  rw [this, List.append_assoc]
  rfl
theorem big_snoc {lim : Int} {l : Lts} {k : Nat} {row : List Ar} (h : l[k]? = some row) : bigE lim (l.take (k + 1)) = (bigE lim (l.take k) || bigW lim row) := by
  rw [take_snoc h]; simp [bigE]
theorem bigW_snoc {lim : Int} {l : List Ar} {k : Nat} {x : Ar} (h : l[k]? = some x) : bigW lim (l.take (k + 1)) = (bigW lim (l.take k) || decide (lim ≤ x.1)) := by
  rw [take_snoc h]; simp [bigW]
theorem bigW_in {lim : Int} {row : List Ar} {x : Ar} (h : x ∈ row) (hx : lim ≤ x.1) : bigW lim row = true := List.any_eq_true.2 ⟨x, h, by simpa using hx⟩
theorem bigE_in {lim : Int} {l : Lts} {row : List Ar} (h : row ∈ l) (hx : bigW lim row = true) : bigE lim l = true := List.any_eq_true.2 ⟨row, h, hx⟩
theorem permW_snoc {dn n : Nat} {p : List Int} {row : List Ar} {j : Nat} {x : Ar} (h : row[j]? = some x) : permW dn n p (row.take (j + 1)) = permW dn n p (row.take j) ++ [permA dn n p x] := by
  rw [take_snoc h]; simp [permW]
set_option linter.unusedSimpArgs false in
set_option maxRecDepth 100000 in
set_option maxHeartbeats 8000000 in
theorem permute_any (w : World) (m : RM) (sv pv : Value) (n : Nat) (p : List Int) (a : Option Addr) (cap : Nat) (l : Lts) (hm : StatesAt w [] sv m.states) (hp : RowV w [] pv p.length 1 (ints p)) (h : LAt w.heap.size w a cap l) (h1 : 1 ≤ n) (h12 : n ≤ 12) :
    Calls Tryz.prog 9 #[machV m sv, .int .i64 n, pv, .agg #[.slice a l.length cap]] w (PermEnd w m n p l) := by
  obtain ⟨sa, sc, rfl, _⟩ := statesShape hm
  obtain ⟨pa, pc, rfl⟩ := RowV.shape hp
  have hval := fun W (hf : Frm [] w W) => valid_any W m (.slice sa m.states.length sc) (hm.nil hf)
  have hprm := fun W (hf : Frm [] w W) => permutation_any (F := []) W (.slice pa p.length pc) p n (hp.nil hf) h1 h12
  have hlv := fun W (hf : Frm [] w W) => Go.Proofs.YtdknbgejhhoaiaaGreat.valid_any w.heap.size a cap l W (h.nil hf rfl)
  have i1 : ¬ (n : Int) < 1 := by omega
  have i2 : ¬ (12 : Int) < (n : Int) := by omega
  have s0 : Sep w (((w.alloc (.cells #[.int .i64 m.regs, .int .i64 m.data, .int .i64 m.plain, .slice sa m.states.length sc] 30)).alloc (.cells #[.slice a l.length cap] 25)).alloc (.cells #[.slice none 0 0] 25)) [boxC (w.heap.size + 1 + 1) 25 [.slice none 0 0], boxC (w.heap.size + 1) 25 [.slice a l.length cap], boxC w.heap.size 30 (mboxC m (.slice sa m.states.length sc))] :=
    (((Sep.start w).add (boxC w.heap.size 30 (mboxC m (.slice sa m.states.length sc))) ((Frm.refl [] w).alloc _) (RowAt.made w _ _ _ rfl) (by simp [boxC])).add (boxC (w.heap.size + 1) 25 [.slice a l.length cap]) ((Frm.refl [] _).alloc _) (row_made1 w _ _ _ _ rfl) (by simp [boxC])).add (boxC (w.heap.size + 1 + 1) 25 [.slice none 0 0]) ((Frm.refl [] _).alloc _) (by
      have := row_made1 (w.alloc (.cells #[.int .i64 m.regs, .int .i64 m.data, .int .i64 m.plain, .slice sa m.states.length sc] 30)) (.cells #[.slice a l.length cap] 25) 25 [.slice none 0 0] #[.slice none 0 0] rfl
      rw [show (w.alloc (.cells #[.int .i64 m.regs, .int .i64 m.data, .int .i64 m.plain, .slice sa m.states.length sc] 30)).heap.size = w.heap.size + 1 from by simp] at this
      exact this) (by simp [boxC])
  have S0 := Lib.hid s0
  have HP := Lib.hid hp
  have H := Lib.hid h
  have HBAD : Hid (¬ PermOk m n p l → ∀ (W : World), Frm [] w W → PermEnd w m n p l (.returned (.tuple #[.agg #[.slice none 0 0], .int .i64 1])) W) := Lib.hid fun hb W hf => ⟨.inr ⟨hb, rfl⟩, hf⟩
  clear s0 hp h hm
  cases hvm : validM m with
  | false =>
    rw [hvm] at hval
    have HV := Lib.hid hval
    clear hval hprm hlv
    have HB := Lib.hid (HBAD.out (fun h9 => by have := h9.1; rw [hvm] at this; cases this))
    unfold machV
    go_enter Tryz.func9, Tryz.ntmps9
    go_wp2_with (first
      | (go_at_call 20; refine (HV.out _ S0.out.frm).mono ?_; rintro e9 wz ⟨rfl, hf9⟩; have SZ := Lib.hid (S0.out.nil hf9); have d0 := (show RowAt wz (w.heap.size + 1 + 1) 25 [.slice none 0 0] from SZ.out.at_ 0 rfl).cell (i := 0) rfl; have d1 := (show RowAt wz (w.heap.size + 1 + 1) 25 [.slice none 0 0] from SZ.out.at_ 0 rfl).frozen 0; have d2 := (show RowAt wz (w.heap.size + 1) 25 [.slice a l.length cap] from SZ.out.at_ 1 rfl).cell (i := 0) rfl; clear hf9)
      | fail)
    have c1 := (show RowAt wz (w.heap.size + 1 + 1) 25 [.slice none 0 0] from SZ.out.at_ 0 rfl).cell (i := 0) rfl
    have hcs := World.cell?_setCell_same' wz ⟨w.heap.size + 1 + 1, 0, none⟩ (.slice none 0 0) (by rw [c1]; rfl)
    refine bodyPost_ret (v := .tuple #[.agg #[.slice none 0 0], .int .i64 1]) (by simp [results, Tryz.results9, go_sem, hcs]) rfl ?_
    exact HB.out _ (SZ.out.putBox 0 rfl 0 (.slice none 0 0)).frm
  | true =>
    rw [hvm] at hval
    have HV := Lib.hid hval
    clear hval
    by_cases hpp : PermP p n
    · rw [decide_eq_true hpp] at hprm
      have HPR := Lib.hid hprm
      clear hprm
      cases hlb : validB l with
      | false =>
        rw [hlb] at hlv
        have HLV := Lib.hid hlv
        clear hlv
        have HB := Lib.hid (HBAD.out (fun h9 => by have := h9.2.2.1; rw [hlb] at this; cases this))
        unfold machV
        go_enter Tryz.func9, Tryz.ntmps9
        go_wp2_with (first
          | (go_at_call 20; refine (HV.out _ S0.out.frm).mono ?_; rintro e9 w1 ⟨rfl, hf9⟩; have S1 := Lib.hid (S0.out.nil hf9); have d2 := (show RowAt w1 (w.heap.size + 1) 25 [.slice a l.length cap] from S1.out.at_ 1 rfl).cell (i := 0) rfl; clear hf9)
          | (go_at_call 21; refine (HPR.out _ S1.out.frm).mono ?_; rintro e9 w2 ⟨rfl, hf9⟩; have S2 := Lib.hid (S1.out.nil hf9); have d2 := (show RowAt w2 (w.heap.size + 1) 25 [.slice a l.length cap] from S2.out.at_ 1 rfl).cell (i := 0) rfl; clear hf9)
          | (go_at_call 22; refine (HLV.out _ S2.out.frm).mono ?_; rintro e9 wz ⟨rfl, hf9⟩; have SZ := Lib.hid (S2.out.nil hf9); have d0 := (show RowAt wz (w.heap.size + 1 + 1) 25 [.slice none 0 0] from SZ.out.at_ 0 rfl).cell (i := 0) rfl; have d1 := (show RowAt wz (w.heap.size + 1 + 1) 25 [.slice none 0 0] from SZ.out.at_ 0 rfl).frozen 0; have d2 := (show RowAt wz (w.heap.size + 1) 25 [.slice a l.length cap] from SZ.out.at_ 1 rfl).cell (i := 0) rfl; clear hf9)
          | fail)
        have c1 := (show RowAt wz (w.heap.size + 1 + 1) 25 [.slice none 0 0] from SZ.out.at_ 0 rfl).cell (i := 0) rfl
        have hcs := World.cell?_setCell_same' wz ⟨w.heap.size + 1 + 1, 0, none⟩ (.slice none 0 0) (by rw [c1]; rfl)
        refine bodyPost_ret (v := .tuple #[.agg #[.slice none 0 0], .int .i64 1]) (by simp [results, Tryz.results9, go_sem, hcs]) rfl ?_
        exact HB.out _ (SZ.out.putBox 0 rfl 0 (.slice none 0 0)).frm
      | true =>
        rw [hlb] at hlv
        have HLV := Lib.hid hlv
        clear hlv
        have HVM := Lib.hid hvm
        have HPP := Lib.hid hpp
        have HLB := Lib.hid hlb
        have hrm := validM_ok hvm
        obtain ⟨d, hd⟩ : ∃ d : Nat, m.data = d := ⟨m.data.toNat, by have := hrm.d0; omega⟩
        obtain ⟨pl, hpl⟩ : ∃ q : Nat, m.plain = q := ⟨m.plain.toNat, by have := hrm.p0; omega⟩
        have hd8 : d ≤ 8 := by have := hrm.d1; omega
        have hp8 : pl ≤ 8 := by have := hrm.p1; omega
        obtain ⟨dn, hdn⟩ : ∃ dn : Nat, dn = d * n := ⟨_, rfl⟩
        have hdn96 : dn ≤ 96 := by rw [hdn]; exact Nat.le_trans (Nat.mul_le_mul hd8 h12) (by decide)
        have hcast : m.data * (n : Int) = (dn : Int) := by rw [hd, hdn]; exact (Int.natCast_mul d n).symm
        have x1 : IntKind.i64.wrap ((d : Int) * (n : Int)) = (dn : Int) := by
          rw [show (d : Int) * (n : Int) = (dn : Int) from by rw [← hcast, hd]]
          exact IntWalk.i64_in _ (by omega)
        have x2 : IntKind.i64.wrap (2 + (dn : Int)) = 2 + (dn : Int) := IntWalk.i64_in _ (by omega)
        have x3 : IntKind.i64.wrap (2 + (dn : Int) + (pl : Int)) = 2 + (dn : Int) + (pl : Int) := IntWalk.i64_in _ (by omega)
        have hlo : looseB l = true := by
          have := hlb
          simp only [validB, Bool.and_eq_true] at this
          exact this.1
        obtain ⟨hn1, hn2, hinto, hrows⟩ := loose_facts hlo
        have HGOOD : Hid (bigE (2 + (dn : Int) + pl) l = false → ∀ (W : World) (ov : Value), LtsAt W [] ov (canB (l.map (permW dn n p))).out → Frm [] w W → PermEnd w m n p l (.returned (.tuple #[.agg #[ov], .int .i64 0])) W) := Lib.hid fun hb W ov hl hf => ⟨.inl ⟨⟨HVM.out, HPP.out, HLB.out, by rw [hcast, hpl]; exact hb⟩, ov, rfl, by rw [hcast, Int.toNat_natCast]; exact hl⟩, hf⟩
        have HBIG : Hid (bigE (2 + (dn : Int) + pl) l = true → ∀ (W : World), Frm [] w W → PermEnd w m n p l (.returned (.tuple #[.agg #[.slice none 0 0], .int .i64 1])) W) := Lib.hid fun hb W hf => HBAD.out (fun h9 => by
          have := h9.2.2.2
          rw [hcast, hpl, hb] at this
          cases this) W hf
        have HLO := Lib.hid hlo
        have HROWS := Lib.hid hrows
        have HARC : Hid (∀ row ∈ l, ∀ x ∈ row, 0 ≤ x.1 ∧ x.1 ≤ 1025) := Lib.hid (by
          simp only [looseB, Bool.and_eq_true, decide_eq_true_eq] at hlo
          exact fun row hr x hx => ⟨((loose_row _ _ _ hlo.2 row hr).2 x hx).1, ((loose_row _ _ _ hlo.2 row hr).2 x hx).2.1⟩)
        have HPM := Lib.hid hd
        have HPL := Lib.hid hpl
        obtain ⟨r00, hr00⟩ : ∃ r, l[0]? = some r := ⟨_, List.getElem?_eq_getElem (by omega)⟩
        obtain ⟨lb, lo, _, _, rfl, hlb2, _, _⟩ := H.out.cell 0 r00 hr00
        have hcapl : (l.length : Int) ≤ (cap : Int) := by have := H.out.le; omega
        have il1 : (0 : Int) < (l.length : Int) := by omega
        have il2 : (l.length : Int) ≤ 16384 := by omega
        clear hlo hinto hrows hr00 hlb hlb2 hpp hvm hrm hcast hdn hpl hd HBAD
        unfold machV
        go_enter Tryz.func9, Tryz.ntmps9
        go_wp2_with (first
          | (go_at_call 20; refine (HV.out _ S0.out.frm).mono ?_; rintro e9 w1 ⟨rfl, hf9⟩; have S1 := Lib.hid (S0.out.nil hf9); have d2 := (show RowAt w1 (w.heap.size + 1) 25 [.slice (some ⟨lb, lo, none⟩) l.length cap] from S1.out.at_ 1 rfl).cell (i := 0) rfl; clear hf9)
          | (go_at_call 21; refine (HPR.out _ S1.out.frm).mono ?_; rintro e9 w2 ⟨rfl, hf9⟩; have S2 := Lib.hid (S1.out.nil hf9); have d2 := (show RowAt w2 (w.heap.size + 1) 25 [.slice (some ⟨lb, lo, none⟩) l.length cap] from S2.out.at_ 1 rfl).cell (i := 0) rfl; clear hf9)
          | (go_at_call 22; refine (HLV.out _ S2.out.frm).mono ?_; rintro e9 w3 ⟨rfl, hf9⟩; have S3 := Lib.hid (S2.out.nil hf9); have d2 := (show RowAt w3 (w.heap.size + 1) 25 [.slice (some ⟨lb, lo, none⟩) l.length cap] from S3.out.at_ 1 rfl).cell (i := 0) rfl; have d3 := (show RowAt w3 w.heap.size 30 (mboxC m (.slice sa m.states.length sc)) from S3.out.at_ 2 rfl).cell (i := 1) (v := .int .i64 d) (by rw [← HPM.out]; rfl); clear hf9)
          | (at_make; refine wpl_make_rowsC _ rfl (.tmp 50) rfl _ l.length rfl rfl (by omega) ?_)
          | (at_make; fail)
          | fail)
        intro w4 hr4 hf4
        have S4 := Lib.hid (S3.out.add (outC (.slice (some ⟨w3.heap.size, 0, none⟩) l.length l.length) (List.replicate l.length (.slice none 0 0)) (List.replicate l.length [])) hf4 hr4 (fun k hk => by
          rcases List.mem_append.1 hk with h9 | h9
          · simp [Value.ownBlock] at h9
            omega
          · obtain ⟨u, hu, h8⟩ := List.mem_flatMap.1 h9
            rw [(List.mem_replicate.1 hu).2] at h8
            simp [Value.ownBlock] at h8))
        have d7 := (show RowAt w4 (w.heap.size + 1) 25 [.slice (some ⟨lb, lo, none⟩) l.length cap] from S4.out.at_ 2 rfl).cell (i := 0) rfl
        clear hr4 hf4
        have d4 := (show RowAt w4 w.heap.size 30 (mboxC m (.slice sa m.states.length sc)) from S4.out.at_ 3 rfl).cell (i := 2) (v := .int .i64 pl) (by rw [← HPL.out]; rfl)
        obtain ⟨go, hgo⟩ : ∃ g, g = w3.heap.size := ⟨_, rfl⟩
        rw [← hgo] at S4 ⊢
        clear hgo S0 S1 S2 S3 d2 d3
        go_wp2_with fail
        go_loopg [55] l.length (fun q t55 wr => ∃ (k : Nat) (us : List Value), q = l.length - k ∧ k ≤ l.length ∧ t55 = .int .i64 k ∧ bigE (2 + (dn : Int) + pl) (l.take k) = false ∧ Sep w wr [outC (.slice (some ⟨go, 0, none⟩) l.length l.length) us (doneL dn n p l k), boxC (w.heap.size + 1 + 1) 25 [.slice none 0 0], boxC (w.heap.size + 1) 25 [.slice (some ⟨lb, lo, none⟩) l.length cap], boxC w.heap.size 30 (mboxC m (.slice sa m.states.length sc))])
        case atStart => exact ⟨0, _, rfl, Nat.zero_le _, rfl, rfl, S4.out⟩
        case round =>
          clear S4 d7 d4
          obtain ⟨k, us, hq, hk, rfl, hbig, hs⟩ := hrel
          have HQ := Lib.hid hq
          have HBG := Lib.hid hbig
          have S := Lib.hid hs
          have i4 : (0 : Int) ≤ (k : Int) := by omega
          clear hq hbig hs
          by_cases hlt : k < l.length
          · have i5 : (k : Int) < (l.length : Int) := by omega
            obtain ⟨row, hrow⟩ : ∃ row, l[k]? = some row := ⟨_, List.getElem?_eq_getElem hlt⟩
            obtain ⟨lb', lo', ra, rc, e1, _, hcl, hrr⟩ := H.out.cell k row hrow
            obtain ⟨rfl, rfl⟩ : lb = lb' ∧ lo = lo' := by simpa using e1
            have hrlen : row.length ≤ 262144 := HROWS.out row (List.mem_of_getElem? hrow)
            have hrlt : (row.length : Int) ≤ 262144 := by omega
            have hrc : (row.length : Int) ≤ (rc : Int) := by have := hrr.1; omega
            have k1 := S.out.frm.cell hcl (by simp)
            have HROW := Lib.hid hrow
            have HRR := Lib.hid hrr
            have S5 : Hid (Sep w wr [outC (.slice (some ⟨go, 0, none⟩) l.length l.length) us (doneW dn n p l k (permW dn n p (row.take 0))), boxC (w.heap.size + 1 + 1) 25 [.slice none 0 0], boxC (w.heap.size + 1) 25 [.slice (some ⟨lb, lo, none⟩) l.length cap], boxC w.heap.size 30 (mboxC m (.slice sa m.states.length sc))]) := Lib.hid (by
              have := S.out
              rw [done_open hlt] at this
              exact this)
            clear hcl hrr hrow e1 S
            go_wp2_with fail
            go_loopg [62] row.length (fun q t62 wr => ∃ (j : Nat) (us : List Value), q = row.length - j ∧ j ≤ row.length ∧ t62 = .int .i64 j ∧ bigW (2 + (dn : Int) + pl) (row.take j) = false ∧ Sep w wr [outC (.slice (some ⟨go, 0, none⟩) l.length l.length) us (doneW dn n p l k (permW dn n p (row.take j))), boxC (w.heap.size + 1 + 1) 25 [.slice none 0 0], boxC (w.heap.size + 1) 25 [.slice (some ⟨lb, lo, none⟩) l.length cap], boxC w.heap.size 30 (mboxC m (.slice sa m.states.length sc))])
            case atStart => exact ⟨0, _, rfl, Nat.zero_le _, rfl, rfl, S5.out⟩
            case round =>
              clear S5 k1
              obtain ⟨j, us, hq3, hj, rfl, hbig3, hs⟩ := hrel
              have HQ3 := Lib.hid hq3
              have HBG3 := Lib.hid hbig3
              have S := Lib.hid hs
              have i11 : (0 : Int) ≤ (j : Int) := by omega
              clear hq3 hbig3 hs
              by_cases hjl : j < row.length
              · have i12 : (j : Int) < (row.length : Int) := by omega
                obtain ⟨⟨ev, t⟩, hx⟩ : ∃ x, row[j]? = some x := ⟨_, List.getElem?_eq_getElem hjl⟩
                obtain ⟨rb, ro, rfl, hrb, hr0, hr1⟩ := HRR.out.2.2.2 j ev t hx
                obtain ⟨hev0, hev1⟩ := HARC.out row (List.mem_of_getElem? HROW.out) _ (List.mem_of_getElem? hx)
                simp only at hev0 hev1
                have m3 := S.out.frm.cell hr0 (by simp)
                have m4 := S.out.frm.cell hr1 (by simp)
                have m5 := (show RowAt wr w.heap.size 30 (mboxC m (.slice sa m.states.length sc)) from S.out.at_ 3 rfl).cell (i := 2) (v := .int .i64 pl) (by rw [← HPL.out]; rfl)
                have lb0 : w.heap.size < wr.heap.size := S.out.lt 3 rfl (by simp [boxC])
                have lb8 : w.heap.size + 1 + 1 < wr.heap.size := S.out.lt 1 rfl (by simp [boxC])
                have HX := Lib.hid hx
                have SX := Lib.hid (S.out.add (boxC wr.heap.size 55 [.int .i64 ev, .int .i64 t]) ((Frm.refl [] wr).alloc (.cells #[.int .i64 ev, .int .i64 t] 55)) (RowAt.made wr _ _ _ rfl) (by simp [boxC]))
                have y1 := (show RowAt wr (w.heap.size + 1 + 1) 25 [.slice none 0 0] from S.out.at_ 1 rfl).cell (i := 0) rfl
                have y2 := (show RowAt wr (w.heap.size + 1 + 1) 25 [.slice none 0 0] from S.out.at_ 1 rfl).frozen 0
                clear hx hr0 hr1
                by_cases hlim : 2 + (dn : Int) + (pl : Int) ≤ ev
                · have HB := Lib.hid (HBIG.out (bigE_in (List.mem_of_getElem? HROW.out) (bigW_in (List.mem_of_getElem? HX.out) hlim)))
                  go_wp2_with fail
                  have SF := (S.out.putBox 1 rfl 0 (.slice none 0 0)).nil ((Frm.refl [] _).alloc (.cells #[.int .i64 ev, .int .i64 t] 55))
                  have hcs := (show RowAt _ (w.heap.size + 1 + 1) 25 [.slice none 0 0] from SF.at_ 1 rfl).cell (i := 0) rfl
                  refine bodyPost_ret (v := .tuple #[.agg #[.slice none 0 0], .int .i64 1]) (by simp [results, Tryz.results9, go_sem, hcs]) rfl ?_
                  exact HB.out _ SF.frm
                · have HLIM := Lib.hid hlim
                  by_cases hin : 2 ≤ ev ∧ ev < 2 + (dn : Int)
                  · obtain ⟨e, he⟩ : ∃ e : Nat, ev - 2 = (e : Int) := ⟨(ev - 2).toNat, by omega⟩
                    have x4 : IntKind.i64.wrap (ev - 2) = (e : Int) := by rw [IntWalk.i64_in _ (by omega)]; exact he
                    have x5 : (0 : Int) ≤ (e : Int) := by omega
                    have x6 := hin.2
                    obtain ⟨pv, hpv⟩ : ∃ pv, p[e % n]? = some pv := ⟨_, List.getElem?_eq_getElem (by rw [HPP.out.1]; exact Nat.mod_lt _ (by omega))⟩
                    obtain ⟨_, pa', pc', e5, hpc1, hpc2, _, hpcell⟩ := HP.out
                    obtain ⟨rfl, rfl⟩ : pa = pa' ∧ pc = pc' := by simpa using e5
                    obtain ⟨pb, po, rfl, _, hpb, hpc⟩ := hpcell (e % n) (.int .i64 pv) (by simp [ints, hpv])
                    have m6 := S.out.frm.cell hpc (by simp)
                    have x7 : ((e % n : Nat) : Int) < (p.length : Int) := by
                      rw [HPP.out.1]
                      have := Nat.mod_lt e (show 0 < n by omega)
                      omega
                    have hpbw : pb < wr.heap.size := Nat.lt_of_lt_of_le hpb S.out.frm.size
                    have x8 : ¬ (n : Int) = 0 := by omega
                    have HPE := Lib.hid (perm_val h1 h12 he x6 hdn96 hpv HPP.out)
                    clear hpcell e5 hpc1 hpc2 hpv hpc
                    go_wp2_with fail
                    go_region
                    rw [HPE.out]
                    have S15 := Lib.hid ((S.out.add (boxC wr.heap.size 55 [.int .i64 (permE dn n p ev), .int .i64 t]) ((Frm.refl [] wr).alloc (.cells #[.int .i64 (permE dn n p ev), .int .i64 t] 55)) (RowAt.made wr _ _ _ rfl) (by simp [boxC])).nil (Frm.refl [] _).drew)
                    clear m6 x7 x8 hpbw hpb HPE x4 x5 x6
                    generalize hWW : (wr.alloc (.cells #[.int .i64 (permE dn n p ev), .int .i64 t] 55)).drew = W15 at *
                    generalize wr.heap.size = xb at *
                    clear hWW SX S y1 y2 m3 m4 m5 lb0 lb8
                    obtain ⟨nx, hnx⟩ : ∃ nx, nx = permW dn n p (row.take j) := ⟨_, rfl⟩
                    rw [← hnx] at S15
                    have HNX := Lib.hid hnx
                    have HNXL : Hid (nx.length = j) := Lib.hid (by rw [hnx, permW, List.length_map, List.length_take]; omega)
                    obtain ⟨u, hu, hown⟩ := (S15.out.at_ 1 rfl).2.2 k nx (doneW_at hlt)
                    obtain ⟨ua, uc, rfl, _⟩ := owns_shape hown
                    obtain ⟨gc, gz⟩ := ownsC_cell (S15.out.at_ 1 rfl) hu
                    have bx := (show RowAt W15 xb 55 [.int .i64 (permE dn n p ev), .int .i64 t] from S15.out.at_ 0 rfl)
                    have hgu : ∀ z ∈ (Value.slice ua nx.length uc).ownBlock.toList, z ≠ go ∧ z ≠ xb := fun z hz => ⟨(owns_ne (S15.out.at_ 1 rfl).1 hown (by decide) rfl (by simpa using hz)).symm, (S15.out.ne 0 1 rfl rfl (by omega) (by simp [boxC]) (List.mem_append_right _ (List.mem_flatMap.2 ⟨_, List.mem_of_getElem? hu, hz⟩))).symm⟩
                    have HGC := Lib.hid gc
                    have HGZ := Lib.hid gz
                    have HBX := Lib.hid bx
                    have HOWN := Lib.hid hown
                    have HGU := Lib.hid hgu
                    have HU := Lib.hid hu
                    clear hnx gc gz bx hown hgu hu
                    have KEEP : Hid (∀ (fp : List Nat) (w' : World), Frm fp W15 w' → (∀ z ∈ fp, z ∈ (Value.slice ua nx.length uc).ownBlock.toList) → w'.cell? ⟨go, k, none⟩ = some (.slice ua nx.length uc) ∧ w'.frozen? ⟨go, k, none⟩ = false ∧ w'.cell? ⟨xb, 0, none⟩ = some (.int .i64 (permE dn n p ev)) ∧ w'.cell? ⟨xb, 1, none⟩ = some (.int .i64 t)) := Lib.hid fun fp w' hf hz => by
                      have hx := HBX.out.frm hf (fun hm => (HGU.out _ (hz _ hm)).2 rfl)
                      exact ⟨hf.cell HGC.out (fun hm => (HGU.out _ (hz _ hm)).1 rfl), hf.frz HGC.out HGZ.out (fun hm => (HGU.out _ (hz _ hm)).1 rfl), hx.cell (i := 0) rfl, hx.cell (i := 1) rfl⟩
                    have HD : Hid (Frm [] W15 W15.drew) := Lib.hid (Frm.refl [] W15).drew
                    go_wp2_with fail
                    refine' wp_region_last (L := 10) _ (fun w' => w'.cell? ⟨go, k, none⟩ = some (.slice ua nx.length uc) ∧ w'.frozen? ⟨go, k, none⟩ = false ∧ w'.cell? ⟨xb, 0, none⟩ = some (.int .i64 (permE dn n p ev)) ∧ w'.cell? ⟨xb, 1, none⟩ = some (.int .i64 t)) (by kernel_rfl) rfl rfl rfl rfl ?he (by kernel_rfl) (by kernel_rfl) ?hS ?h
                    case he =>
                      simp only [nopOf, List.getElem_toArray, List.getElem_cons_succ, List.getElem_cons_zero, List.setIfInBounds_toArray, List.set_cons_succ, List.set_cons_zero]
                      rfl
                    case hS => exact KEEP.out [] _ HD.out (by simp)
                    intro hHeld
                    refine wpAnyH_take (i := 0) (v := ?_) rfl (by kernel_rfl) (by kernel_rfl) (by kernel_rfl) (fun _ _ _ h => h) (Or.inl ⟨by rfl, ?_⟩) (by assumption) ?_
                    rotate_left
                    · intro w9 hS9
                      try dsimp only at hS9
                      go_split_ands
                      go_simp
                      try with_reducible rfl
                    try simp only [Act.put, List.getElem_toArray, List.getElem_cons_succ, List.getElem_cons_zero, List.setIfInBounds_toArray, List.set_cons_zero, List.set_cons_succ]
                    refine wpAnyH_take (i := 1) (v := ?_) rfl (by kernel_rfl) (by kernel_rfl) (by kernel_rfl) (fun _ _ _ h => h) (Or.inl ⟨by rfl, ?_⟩) (by assumption) ?_
                    rotate_left
                    · intro w9 hS9
                      try dsimp only at hS9
                      go_split_ands
                      go_simp
                      try with_reducible rfl
                    try simp only [Act.put, List.getElem_toArray, List.getElem_cons_succ, List.getElem_cons_zero, List.setIfInBounds_toArray, List.set_cons_zero, List.set_cons_succ]
                    refine wpAnyH_take (i := 2) (v := ?_) rfl (by kernel_rfl) (by kernel_rfl) (by kernel_rfl) (fun _ _ _ h => h) (Or.inl ⟨by rfl, ?_⟩) (by assumption) ?_
                    rotate_left
                    · intro w9 hS9
                      try dsimp only at hS9
                      go_split_ands
                      go_simp
                      try with_reducible rfl
                    try simp only [Act.put, List.getElem_toArray, List.getElem_cons_succ, List.getElem_cons_zero, List.setIfInBounds_toArray, List.set_cons_zero, List.set_cons_succ]
                    refine wpAnyH_take (i := 3) (v := ?_) rfl (by kernel_rfl) (by kernel_rfl) (by kernel_rfl) (fun _ _ _ h => h) (Or.inl ⟨by rfl, ?_⟩) (by assumption) ?_
                    rotate_left
                    · intro w9 hS9
                      try dsimp only at hS9
                      go_split_ands
                      go_simp
                      try with_reducible rfl
                    try simp only [Act.put, List.getElem_toArray, List.getElem_cons_succ, List.getElem_cons_zero, List.setIfInBounds_toArray, List.set_cons_zero, List.set_cons_succ]
                    refine wpAnyH_take (i := 4) (v := ?_) rfl (by kernel_rfl) (by kernel_rfl) (by kernel_rfl) (fun _ _ _ h => h) (Or.inl ⟨by rfl, ?_⟩) (by assumption) ?_
                    rotate_left
                    · intro w9 hS9
                      try dsimp only at hS9
                      go_split_ands
                      go_simp
                      try with_reducible rfl
                    try simp only [Act.put, List.getElem_toArray, List.getElem_cons_succ, List.getElem_cons_zero, List.setIfInBounds_toArray, List.set_cons_zero, List.set_cons_succ]
                    refine wpAnyH_take (i := 5) (v := ?_) rfl (by kernel_rfl) (by kernel_rfl) (by kernel_rfl) (fun _ _ _ h => h) (Or.inl ⟨by rfl, ?_⟩) (by assumption) ?_
                    rotate_left
                    · intro w9 hS9
                      try dsimp only at hS9
                      go_split_ands
                      go_simp
                      try with_reducible rfl
                    try simp only [Act.put, List.getElem_toArray, List.getElem_cons_succ, List.getElem_cons_zero, List.setIfInBounds_toArray, List.set_cons_zero, List.set_cons_succ]
                    refine wpAnyH_take (i := 6) (v := ?_) rfl (by kernel_rfl) (by kernel_rfl) (by kernel_rfl) (fun _ _ _ h => h) (Or.inl ⟨by rfl, ?_⟩) (by assumption) ?_
                    rotate_left
                    · intro w9 hS9
                      try dsimp only at hS9
                      go_split_ands
                      go_simp
                      try with_reducible rfl
                    try simp only [Act.put, List.getElem_toArray, List.getElem_cons_succ, List.getElem_cons_zero, List.setIfInBounds_toArray, List.set_cons_zero, List.set_cons_succ]
                    refine wpAnyH_ready (rs := [7]) (by kernel_rfl) (by simp) ?_
                    refine AllReadyH.cons rfl (fun K hK => ?_) AllReadyH.nil
                    go_simp
                    have F9 : Frm [] W15 (W15.drew.alloc (.cells #[.int .i64 (permE dn n p ev), .int .i64 t] 55)) := (Frm.refl [] W15).drew.alloc _
                    have hr9 := RowAt.made W15.drew 55 [.int .i64 (permE dn n p ev), .int .i64 t] #[.int .i64 (permE dn n p ev), .int .i64 t] rfl
                    refine hK.out _ _ ?_ (fun hHeld => ?_)
                    · exact KEEP.out [] _ F9 (by simp)
                    clear hK K
                    try simp only [Act.put, List.getElem_toArray, List.getElem_cons_succ, List.getElem_cons_zero, List.setIfInBounds_toArray, List.set_cons_zero, List.set_cons_succ]
                    refine wpAnyH_ready (rs := [8]) (by kernel_rfl) (by simp) ?_
                    refine AllReadyH.cons rfl (fun K hK => ?_) AllReadyH.nil
                    refine step_app_rowL rfl (.tmp 104) (.tmp 106) 51 55 _ 2 16 rfl Tryz.underlying51 infoAr rfl (by decide) (by decide) 0 nx.length _ (nx.flatMap arE) rfl (owns_frm HOWN.out F9 (by simp)) _ 1 [.int .i64 (permE dn n p ev), .int .i64 t] [] rfl (rowV_cells (size := 2) hr9 rfl (Nat.le_refl _) (by decide) (by simp)) (by simp [Value.oneCell']) (nx.length + 1) rfl (by have := HNXL.out; omega) (Nat.zero_le _) ?_
                    intro a7 c7 w7 own7 hf7 hloc7
                    have F7 : Frm (Value.slice ua nx.length uc).ownBlock.toList W15 w7 := (F9.mono (by simp)).trans hf7 (fun x hx => .inl hx)
                    refine hK.out _ _ ?_ (fun hHeld => ?_)
                    · exact KEEP.out _ _ F7 (fun z hz => hz)
                    clear hK K
                    try simp only [Act.put, List.getElem_toArray, List.getElem_cons_succ, List.getElem_cons_zero, List.setIfInBounds_toArray, List.set_cons_zero, List.set_cons_succ]
                    refine wpAnyH_take (i := 9) (v := ?_) rfl (by kernel_rfl) (by kernel_rfl) (by kernel_rfl) (fun _ _ _ h => h) (Or.inl ⟨by rfl, ?_⟩) (by assumption) ?_
                    rotate_left
                    · intro w9 hS9
                      try dsimp only at hS9
                      go_split_ands
                      go_simp
                      try with_reducible rfl
                    try simp only [Act.put, List.getElem_toArray, List.getElem_cons_succ, List.getElem_cons_zero, List.setIfInBounds_toArray, List.set_cons_zero, List.set_cons_succ]
                    refine wpAnyH_take (i := 10) (v := ?_) rfl (by kernel_rfl) (by kernel_rfl) (by kernel_rfl) (fun _ _ _ h => h) (Or.inl ⟨by rfl, ?_⟩) (by assumption) ?_
                    rotate_left
                    · intro w9 hS9
                      try dsimp only at hS9
                      go_split_ands
                      go_simp
                      try with_reducible rfl
                    try simp only [Act.put, List.getElem_toArray, List.getElem_cons_succ, List.getElem_cons_zero, List.setIfInBounds_toArray, List.set_cons_zero, List.set_cons_succ]
                    refine wpAnyH_done (by kernel_rfl) ?_ _
                    refine Qt.last rfl rfl ?_
                    simp only [List.getElem_toArray, List.getElem_cons_succ, List.getElem_cons_zero]
                    have y7 := (KEEP.out _ _ F7 (fun z hz => hz)).2.1
                    have b7 := (KEEP.out _ _ F7 (fun z hz => hz)).1
                    go_simp
                    have HA := Lib.hid (((Sep.setRow (r' := nx ++ [(permE dn n p ev, t)]) ((S15.out.nil F9).pull 1 rfl) HU.out (by decide) rfl own7 (by simp) (by simp [arE]) hf7 (fun q hq => (hloc7 q hq).imp id (fun h => Nat.le_of_eq h.symm))).pull 1 rfl).tail)
                    clear hf7 hloc7 F7 F9 hr9 b7 y7 own7 hHeld KEEP HD S15 HGC HGZ HBX HOWN HGU HU
                    generalize w7.setCell ⟨go, k, none⟩ (.slice a7 (nx.length + 1) c7) = w8 at *
                    go_wp2_with fail
                    go_roundg (row.length - (j + 1))
                    case rel =>
                      refine ⟨j + 1, us.set k (.slice a7 (nx.length + 1) c7), rfl, by omega, by go_num, by rw [bigW_snoc HX.out, HBG3.out]; simpa using HLIM.out, ?_⟩
                      have h9 := HA.out
                      rw [permW_snoc HX.out, ← HNX.out]
                      simp only [List.eraseIdx_cons_zero, List.eraseIdx_cons_succ] at h9
                      rw [doneW_set hlt] at h9
                      exact h9
                    case measure => have := HQ3.out; omega
                  · have hpe : permE dn n p ev = ev := by rw [permE, if_neg hin]
                    obtain ⟨z, hz⟩ : ∃ z, z = ev - 2 := ⟨_, rfl⟩
                    have x4 : IntKind.i64.wrap (ev - 2) = z := by rw [IntWalk.i64_in _ (by omega)]; exact hz.symm
                    have S15 : Hid (Sep w (wr.alloc (.cells #[.int .i64 ev, .int .i64 t] 55)) (boxC wr.heap.size 55 [.int .i64 (permE dn n p ev), .int .i64 t] :: _)) := Lib.hid (by rw [hpe]; exact SX.out)
                    have hor : (z < 0) ∨ (0 ≤ z ∧ ¬ ev < 2 + (dn : Int)) := by omega
                    clear hpe hz
                    rcases hor with x5 | ⟨x5, x6⟩
                    · have x5' : ¬ 0 ≤ z := by omega
                      go_wp2_with fail
                      generalize hWW : wr.alloc (.cells #[.int .i64 ev, .int .i64 t] 55) = W15 at *
                      generalize wr.heap.size = xb at *
                      clear hWW SX S y1 y2 m3 m4 m5 lb0 lb8
                      obtain ⟨nx, hnx⟩ : ∃ nx, nx = permW dn n p (row.take j) := ⟨_, rfl⟩
                      rw [← hnx] at S15
                      have HNX := Lib.hid hnx
                      have HNXL : Hid (nx.length = j) := Lib.hid (by rw [hnx, permW, List.length_map, List.length_take]; omega)
                      obtain ⟨u, hu, hown⟩ := (S15.out.at_ 1 rfl).2.2 k nx (doneW_at hlt)
                      obtain ⟨ua, uc, rfl, _⟩ := owns_shape hown
                      obtain ⟨gc, gz⟩ := ownsC_cell (S15.out.at_ 1 rfl) hu
                      have bx := (show RowAt W15 xb 55 [.int .i64 (permE dn n p ev), .int .i64 t] from S15.out.at_ 0 rfl)
                      have hgu : ∀ z ∈ (Value.slice ua nx.length uc).ownBlock.toList, z ≠ go ∧ z ≠ xb := fun z hz => ⟨(owns_ne (S15.out.at_ 1 rfl).1 hown (by decide) rfl (by simpa using hz)).symm, (S15.out.ne 0 1 rfl rfl (by omega) (by simp [boxC]) (List.mem_append_right _ (List.mem_flatMap.2 ⟨_, List.mem_of_getElem? hu, hz⟩))).symm⟩
                      have HGC := Lib.hid gc
                      have HGZ := Lib.hid gz
                      have HBX := Lib.hid bx
                      have HOWN := Lib.hid hown
                      have HGU := Lib.hid hgu
                      have HU := Lib.hid hu
                      clear hnx gc gz bx hown hgu hu
                      have KEEP : Hid (∀ (fp : List Nat) (w' : World), Frm fp W15 w' → (∀ z ∈ fp, z ∈ (Value.slice ua nx.length uc).ownBlock.toList) → w'.cell? ⟨go, k, none⟩ = some (.slice ua nx.length uc) ∧ w'.frozen? ⟨go, k, none⟩ = false ∧ w'.cell? ⟨xb, 0, none⟩ = some (.int .i64 (permE dn n p ev)) ∧ w'.cell? ⟨xb, 1, none⟩ = some (.int .i64 t)) := Lib.hid fun fp w' hf hz => by
                        have hx := HBX.out.frm hf (fun hm => (HGU.out _ (hz _ hm)).2 rfl)
                        exact ⟨hf.cell HGC.out (fun hm => (HGU.out _ (hz _ hm)).1 rfl), hf.frz HGC.out HGZ.out (fun hm => (HGU.out _ (hz _ hm)).1 rfl), hx.cell (i := 0) rfl, hx.cell (i := 1) rfl⟩
                      have HD : Hid (Frm [] W15 W15.drew) := Lib.hid (Frm.refl [] W15).drew
                      go_wp2_with fail
                      refine' wp_region_last (L := 10) _ (fun w' => w'.cell? ⟨go, k, none⟩ = some (.slice ua nx.length uc) ∧ w'.frozen? ⟨go, k, none⟩ = false ∧ w'.cell? ⟨xb, 0, none⟩ = some (.int .i64 (permE dn n p ev)) ∧ w'.cell? ⟨xb, 1, none⟩ = some (.int .i64 t)) (by kernel_rfl) rfl rfl rfl rfl ?he (by kernel_rfl) (by kernel_rfl) ?hS ?h
                      case he =>
                        simp only [nopOf, List.getElem_toArray, List.getElem_cons_succ, List.getElem_cons_zero, List.setIfInBounds_toArray, List.set_cons_succ, List.set_cons_zero]
                        rfl
                      case hS => exact KEEP.out [] _ HD.out (by simp)
                      intro hHeld
                      refine wpAnyH_take (i := 0) (v := ?_) rfl (by kernel_rfl) (by kernel_rfl) (by kernel_rfl) (fun _ _ _ h => h) (Or.inl ⟨by rfl, ?_⟩) (by assumption) ?_
                      rotate_left
                      · intro w9 hS9
                        try dsimp only at hS9
                        go_split_ands
                        go_simp
                        try with_reducible rfl
                      try simp only [Act.put, List.getElem_toArray, List.getElem_cons_succ, List.getElem_cons_zero, List.setIfInBounds_toArray, List.set_cons_zero, List.set_cons_succ]
                      refine wpAnyH_take (i := 1) (v := ?_) rfl (by kernel_rfl) (by kernel_rfl) (by kernel_rfl) (fun _ _ _ h => h) (Or.inl ⟨by rfl, ?_⟩) (by assumption) ?_
                      rotate_left
                      · intro w9 hS9
                        try dsimp only at hS9
                        go_split_ands
                        go_simp
                        try with_reducible rfl
                      try simp only [Act.put, List.getElem_toArray, List.getElem_cons_succ, List.getElem_cons_zero, List.setIfInBounds_toArray, List.set_cons_zero, List.set_cons_succ]
                      refine wpAnyH_take (i := 2) (v := ?_) rfl (by kernel_rfl) (by kernel_rfl) (by kernel_rfl) (fun _ _ _ h => h) (Or.inl ⟨by rfl, ?_⟩) (by assumption) ?_
                      rotate_left
                      · intro w9 hS9
                        try dsimp only at hS9
                        go_split_ands
                        go_simp
                        try with_reducible rfl
                      try simp only [Act.put, List.getElem_toArray, List.getElem_cons_succ, List.getElem_cons_zero, List.setIfInBounds_toArray, List.set_cons_zero, List.set_cons_succ]
                      refine wpAnyH_take (i := 3) (v := ?_) rfl (by kernel_rfl) (by kernel_rfl) (by kernel_rfl) (fun _ _ _ h => h) (Or.inl ⟨by rfl, ?_⟩) (by assumption) ?_
                      rotate_left
                      · intro w9 hS9
                        try dsimp only at hS9
                        go_split_ands
                        go_simp
                        try with_reducible rfl
                      try simp only [Act.put, List.getElem_toArray, List.getElem_cons_succ, List.getElem_cons_zero, List.setIfInBounds_toArray, List.set_cons_zero, List.set_cons_succ]
                      refine wpAnyH_take (i := 4) (v := ?_) rfl (by kernel_rfl) (by kernel_rfl) (by kernel_rfl) (fun _ _ _ h => h) (Or.inl ⟨by rfl, ?_⟩) (by assumption) ?_
                      rotate_left
                      · intro w9 hS9
                        try dsimp only at hS9
                        go_split_ands
                        go_simp
                        try with_reducible rfl
                      try simp only [Act.put, List.getElem_toArray, List.getElem_cons_succ, List.getElem_cons_zero, List.setIfInBounds_toArray, List.set_cons_zero, List.set_cons_succ]
                      refine wpAnyH_take (i := 5) (v := ?_) rfl (by kernel_rfl) (by kernel_rfl) (by kernel_rfl) (fun _ _ _ h => h) (Or.inl ⟨by rfl, ?_⟩) (by assumption) ?_
                      rotate_left
                      · intro w9 hS9
                        try dsimp only at hS9
                        go_split_ands
                        go_simp
                        try with_reducible rfl
                      try simp only [Act.put, List.getElem_toArray, List.getElem_cons_succ, List.getElem_cons_zero, List.setIfInBounds_toArray, List.set_cons_zero, List.set_cons_succ]
                      refine wpAnyH_take (i := 6) (v := ?_) rfl (by kernel_rfl) (by kernel_rfl) (by kernel_rfl) (fun _ _ _ h => h) (Or.inl ⟨by rfl, ?_⟩) (by assumption) ?_
                      rotate_left
                      · intro w9 hS9
                        try dsimp only at hS9
                        go_split_ands
                        go_simp
                        try with_reducible rfl
                      try simp only [Act.put, List.getElem_toArray, List.getElem_cons_succ, List.getElem_cons_zero, List.setIfInBounds_toArray, List.set_cons_zero, List.set_cons_succ]
                      refine wpAnyH_ready (rs := [7]) (by kernel_rfl) (by simp) ?_
                      refine AllReadyH.cons rfl (fun K hK => ?_) AllReadyH.nil
                      go_simp
                      have F9 : Frm [] W15 (W15.drew.alloc (.cells #[.int .i64 (permE dn n p ev), .int .i64 t] 55)) := (Frm.refl [] W15).drew.alloc _
                      have hr9 := RowAt.made W15.drew 55 [.int .i64 (permE dn n p ev), .int .i64 t] #[.int .i64 (permE dn n p ev), .int .i64 t] rfl
                      refine hK.out _ _ ?_ (fun hHeld => ?_)
                      · exact KEEP.out [] _ F9 (by simp)
                      clear hK K
                      try simp only [Act.put, List.getElem_toArray, List.getElem_cons_succ, List.getElem_cons_zero, List.setIfInBounds_toArray, List.set_cons_zero, List.set_cons_succ]
                      refine wpAnyH_ready (rs := [8]) (by kernel_rfl) (by simp) ?_
                      refine AllReadyH.cons rfl (fun K hK => ?_) AllReadyH.nil
                      refine step_app_rowL rfl (.tmp 104) (.tmp 106) 51 55 _ 2 16 rfl Tryz.underlying51 infoAr rfl (by decide) (by decide) 0 nx.length _ (nx.flatMap arE) rfl (owns_frm HOWN.out F9 (by simp)) _ 1 [.int .i64 (permE dn n p ev), .int .i64 t] [] rfl (rowV_cells (size := 2) hr9 rfl (Nat.le_refl _) (by decide) (by simp)) (by simp [Value.oneCell']) (nx.length + 1) rfl (by have := HNXL.out; omega) (Nat.zero_le _) ?_
                      intro a7 c7 w7 own7 hf7 hloc7
                      have F7 : Frm (Value.slice ua nx.length uc).ownBlock.toList W15 w7 := (F9.mono (by simp)).trans hf7 (fun x hx => .inl hx)
                      refine hK.out _ _ ?_ (fun hHeld => ?_)
                      · exact KEEP.out _ _ F7 (fun z hz => hz)
                      clear hK K
                      try simp only [Act.put, List.getElem_toArray, List.getElem_cons_succ, List.getElem_cons_zero, List.setIfInBounds_toArray, List.set_cons_zero, List.set_cons_succ]
                      refine wpAnyH_take (i := 9) (v := ?_) rfl (by kernel_rfl) (by kernel_rfl) (by kernel_rfl) (fun _ _ _ h => h) (Or.inl ⟨by rfl, ?_⟩) (by assumption) ?_
                      rotate_left
                      · intro w9 hS9
                        try dsimp only at hS9
                        go_split_ands
                        go_simp
                        try with_reducible rfl
                      try simp only [Act.put, List.getElem_toArray, List.getElem_cons_succ, List.getElem_cons_zero, List.setIfInBounds_toArray, List.set_cons_zero, List.set_cons_succ]
                      refine wpAnyH_take (i := 10) (v := ?_) rfl (by kernel_rfl) (by kernel_rfl) (by kernel_rfl) (fun _ _ _ h => h) (Or.inl ⟨by rfl, ?_⟩) (by assumption) ?_
                      rotate_left
                      · intro w9 hS9
                        try dsimp only at hS9
                        go_split_ands
                        go_simp
                        try with_reducible rfl
                      try simp only [Act.put, List.getElem_toArray, List.getElem_cons_succ, List.getElem_cons_zero, List.setIfInBounds_toArray, List.set_cons_zero, List.set_cons_succ]
                      refine wpAnyH_done (by kernel_rfl) ?_ _
                      refine Qt.last rfl rfl ?_
                      simp only [List.getElem_toArray, List.getElem_cons_succ, List.getElem_cons_zero]
                      have y7 := (KEEP.out _ _ F7 (fun z hz => hz)).2.1
                      have b7 := (KEEP.out _ _ F7 (fun z hz => hz)).1
                      go_simp
                      have HA := Lib.hid (((Sep.setRow (r' := nx ++ [(permE dn n p ev, t)]) ((S15.out.nil F9).pull 1 rfl) HU.out (by decide) rfl own7 (by simp) (by simp [arE]) hf7 (fun q hq => (hloc7 q hq).imp id (fun h => Nat.le_of_eq h.symm))).pull 1 rfl).tail)
                      clear hf7 hloc7 F7 F9 hr9 b7 y7 own7 hHeld KEEP HD S15 HGC HGZ HBX HOWN HGU HU
                      generalize w7.setCell ⟨go, k, none⟩ (.slice a7 (nx.length + 1) c7) = w8 at *
                      go_wp2_with fail
                      go_roundg (row.length - (j + 1))
                      case rel =>
                        refine ⟨j + 1, us.set k (.slice a7 (nx.length + 1) c7), rfl, by omega, by go_num, by rw [bigW_snoc HX.out, HBG3.out]; simpa using HLIM.out, ?_⟩
                        have h9 := HA.out
                        rw [permW_snoc HX.out, ← HNX.out]
                        simp only [List.eraseIdx_cons_zero, List.eraseIdx_cons_succ] at h9
                        rw [doneW_set hlt] at h9
                        exact h9
                      case measure => have := HQ3.out; omega
                    · go_wp2_with fail
                      generalize hWW : wr.alloc (.cells #[.int .i64 ev, .int .i64 t] 55) = W15 at *
                      generalize wr.heap.size = xb at *
                      clear hWW SX S y1 y2 m3 m4 m5 lb0 lb8
                      obtain ⟨nx, hnx⟩ : ∃ nx, nx = permW dn n p (row.take j) := ⟨_, rfl⟩
                      rw [← hnx] at S15
                      have HNX := Lib.hid hnx
                      have HNXL : Hid (nx.length = j) := Lib.hid (by rw [hnx, permW, List.length_map, List.length_take]; omega)
                      obtain ⟨u, hu, hown⟩ := (S15.out.at_ 1 rfl).2.2 k nx (doneW_at hlt)
                      obtain ⟨ua, uc, rfl, _⟩ := owns_shape hown
                      obtain ⟨gc, gz⟩ := ownsC_cell (S15.out.at_ 1 rfl) hu
                      have bx := (show RowAt W15 xb 55 [.int .i64 (permE dn n p ev), .int .i64 t] from S15.out.at_ 0 rfl)
                      have hgu : ∀ z ∈ (Value.slice ua nx.length uc).ownBlock.toList, z ≠ go ∧ z ≠ xb := fun z hz => ⟨(owns_ne (S15.out.at_ 1 rfl).1 hown (by decide) rfl (by simpa using hz)).symm, (S15.out.ne 0 1 rfl rfl (by omega) (by simp [boxC]) (List.mem_append_right _ (List.mem_flatMap.2 ⟨_, List.mem_of_getElem? hu, hz⟩))).symm⟩
                      have HGC := Lib.hid gc
                      have HGZ := Lib.hid gz
                      have HBX := Lib.hid bx
                      have HOWN := Lib.hid hown
                      have HGU := Lib.hid hgu
                      have HU := Lib.hid hu
                      clear hnx gc gz bx hown hgu hu
                      have KEEP : Hid (∀ (fp : List Nat) (w' : World), Frm fp W15 w' → (∀ z ∈ fp, z ∈ (Value.slice ua nx.length uc).ownBlock.toList) → w'.cell? ⟨go, k, none⟩ = some (.slice ua nx.length uc) ∧ w'.frozen? ⟨go, k, none⟩ = false ∧ w'.cell? ⟨xb, 0, none⟩ = some (.int .i64 (permE dn n p ev)) ∧ w'.cell? ⟨xb, 1, none⟩ = some (.int .i64 t)) := Lib.hid fun fp w' hf hz => by
                        have hx := HBX.out.frm hf (fun hm => (HGU.out _ (hz _ hm)).2 rfl)
                        exact ⟨hf.cell HGC.out (fun hm => (HGU.out _ (hz _ hm)).1 rfl), hf.frz HGC.out HGZ.out (fun hm => (HGU.out _ (hz _ hm)).1 rfl), hx.cell (i := 0) rfl, hx.cell (i := 1) rfl⟩
                      have HD : Hid (Frm [] W15 W15.drew) := Lib.hid (Frm.refl [] W15).drew
                      go_wp2_with fail
                      refine' wp_region_last (L := 10) _ (fun w' => w'.cell? ⟨go, k, none⟩ = some (.slice ua nx.length uc) ∧ w'.frozen? ⟨go, k, none⟩ = false ∧ w'.cell? ⟨xb, 0, none⟩ = some (.int .i64 (permE dn n p ev)) ∧ w'.cell? ⟨xb, 1, none⟩ = some (.int .i64 t)) (by kernel_rfl) rfl rfl rfl rfl ?he (by kernel_rfl) (by kernel_rfl) ?hS ?h
                      case he =>
                        simp only [nopOf, List.getElem_toArray, List.getElem_cons_succ, List.getElem_cons_zero, List.setIfInBounds_toArray, List.set_cons_succ, List.set_cons_zero]
                        rfl
                      case hS => exact KEEP.out [] _ HD.out (by simp)
                      intro hHeld
                      refine wpAnyH_take (i := 0) (v := ?_) rfl (by kernel_rfl) (by kernel_rfl) (by kernel_rfl) (fun _ _ _ h => h) (Or.inl ⟨by rfl, ?_⟩) (by assumption) ?_
                      rotate_left
                      · intro w9 hS9
                        try dsimp only at hS9
                        go_split_ands
                        go_simp
                        try with_reducible rfl
                      try simp only [Act.put, List.getElem_toArray, List.getElem_cons_succ, List.getElem_cons_zero, List.setIfInBounds_toArray, List.set_cons_zero, List.set_cons_succ]
                      refine wpAnyH_take (i := 1) (v := ?_) rfl (by kernel_rfl) (by kernel_rfl) (by kernel_rfl) (fun _ _ _ h => h) (Or.inl ⟨by rfl, ?_⟩) (by assumption) ?_
                      rotate_left
                      · intro w9 hS9
                        try dsimp only at hS9
                        go_split_ands
                        go_simp
                        try with_reducible rfl
                      try simp only [Act.put, List.getElem_toArray, List.getElem_cons_succ, List.getElem_cons_zero, List.setIfInBounds_toArray, List.set_cons_zero, List.set_cons_succ]
                      refine wpAnyH_take (i := 2) (v := ?_) rfl (by kernel_rfl) (by kernel_rfl) (by kernel_rfl) (fun _ _ _ h => h) (Or.inl ⟨by rfl, ?_⟩) (by assumption) ?_
                      rotate_left
                      · intro w9 hS9
                        try dsimp only at hS9
                        go_split_ands
                        go_simp
                        try with_reducible rfl
                      try simp only [Act.put, List.getElem_toArray, List.getElem_cons_succ, List.getElem_cons_zero, List.setIfInBounds_toArray, List.set_cons_zero, List.set_cons_succ]
                      refine wpAnyH_take (i := 3) (v := ?_) rfl (by kernel_rfl) (by kernel_rfl) (by kernel_rfl) (fun _ _ _ h => h) (Or.inl ⟨by rfl, ?_⟩) (by assumption) ?_
                      rotate_left
                      · intro w9 hS9
                        try dsimp only at hS9
                        go_split_ands
                        go_simp
                        try with_reducible rfl
                      try simp only [Act.put, List.getElem_toArray, List.getElem_cons_succ, List.getElem_cons_zero, List.setIfInBounds_toArray, List.set_cons_zero, List.set_cons_succ]
                      refine wpAnyH_take (i := 4) (v := ?_) rfl (by kernel_rfl) (by kernel_rfl) (by kernel_rfl) (fun _ _ _ h => h) (Or.inl ⟨by rfl, ?_⟩) (by assumption) ?_
                      rotate_left
                      · intro w9 hS9
                        try dsimp only at hS9
                        go_split_ands
                        go_simp
                        try with_reducible rfl
                      try simp only [Act.put, List.getElem_toArray, List.getElem_cons_succ, List.getElem_cons_zero, List.setIfInBounds_toArray, List.set_cons_zero, List.set_cons_succ]
                      refine wpAnyH_take (i := 5) (v := ?_) rfl (by kernel_rfl) (by kernel_rfl) (by kernel_rfl) (fun _ _ _ h => h) (Or.inl ⟨by rfl, ?_⟩) (by assumption) ?_
                      rotate_left
                      · intro w9 hS9
                        try dsimp only at hS9
                        go_split_ands
                        go_simp
                        try with_reducible rfl
                      try simp only [Act.put, List.getElem_toArray, List.getElem_cons_succ, List.getElem_cons_zero, List.setIfInBounds_toArray, List.set_cons_zero, List.set_cons_succ]
                      refine wpAnyH_take (i := 6) (v := ?_) rfl (by kernel_rfl) (by kernel_rfl) (by kernel_rfl) (fun _ _ _ h => h) (Or.inl ⟨by rfl, ?_⟩) (by assumption) ?_
                      rotate_left
                      · intro w9 hS9
                        try dsimp only at hS9
                        go_split_ands
                        go_simp
                        try with_reducible rfl
                      try simp only [Act.put, List.getElem_toArray, List.getElem_cons_succ, List.getElem_cons_zero, List.setIfInBounds_toArray, List.set_cons_zero, List.set_cons_succ]
                      refine wpAnyH_ready (rs := [7]) (by kernel_rfl) (by simp) ?_
                      refine AllReadyH.cons rfl (fun K hK => ?_) AllReadyH.nil
                      go_simp
                      have F9 : Frm [] W15 (W15.drew.alloc (.cells #[.int .i64 (permE dn n p ev), .int .i64 t] 55)) := (Frm.refl [] W15).drew.alloc _
                      have hr9 := RowAt.made W15.drew 55 [.int .i64 (permE dn n p ev), .int .i64 t] #[.int .i64 (permE dn n p ev), .int .i64 t] rfl
                      refine hK.out _ _ ?_ (fun hHeld => ?_)
                      · exact KEEP.out [] _ F9 (by simp)
                      clear hK K
                      try simp only [Act.put, List.getElem_toArray, List.getElem_cons_succ, List.getElem_cons_zero, List.setIfInBounds_toArray, List.set_cons_zero, List.set_cons_succ]
                      refine wpAnyH_ready (rs := [8]) (by kernel_rfl) (by simp) ?_
                      refine AllReadyH.cons rfl (fun K hK => ?_) AllReadyH.nil
                      refine step_app_rowL rfl (.tmp 104) (.tmp 106) 51 55 _ 2 16 rfl Tryz.underlying51 infoAr rfl (by decide) (by decide) 0 nx.length _ (nx.flatMap arE) rfl (owns_frm HOWN.out F9 (by simp)) _ 1 [.int .i64 (permE dn n p ev), .int .i64 t] [] rfl (rowV_cells (size := 2) hr9 rfl (Nat.le_refl _) (by decide) (by simp)) (by simp [Value.oneCell']) (nx.length + 1) rfl (by have := HNXL.out; omega) (Nat.zero_le _) ?_
                      intro a7 c7 w7 own7 hf7 hloc7
                      have F7 : Frm (Value.slice ua nx.length uc).ownBlock.toList W15 w7 := (F9.mono (by simp)).trans hf7 (fun x hx => .inl hx)
                      refine hK.out _ _ ?_ (fun hHeld => ?_)
                      · exact KEEP.out _ _ F7 (fun z hz => hz)
                      clear hK K
                      try simp only [Act.put, List.getElem_toArray, List.getElem_cons_succ, List.getElem_cons_zero, List.setIfInBounds_toArray, List.set_cons_zero, List.set_cons_succ]
                      refine wpAnyH_take (i := 9) (v := ?_) rfl (by kernel_rfl) (by kernel_rfl) (by kernel_rfl) (fun _ _ _ h => h) (Or.inl ⟨by rfl, ?_⟩) (by assumption) ?_
                      rotate_left
                      · intro w9 hS9
                        try dsimp only at hS9
                        go_split_ands
                        go_simp
                        try with_reducible rfl
                      try simp only [Act.put, List.getElem_toArray, List.getElem_cons_succ, List.getElem_cons_zero, List.setIfInBounds_toArray, List.set_cons_zero, List.set_cons_succ]
                      refine wpAnyH_take (i := 10) (v := ?_) rfl (by kernel_rfl) (by kernel_rfl) (by kernel_rfl) (fun _ _ _ h => h) (Or.inl ⟨by rfl, ?_⟩) (by assumption) ?_
                      rotate_left
                      · intro w9 hS9
                        try dsimp only at hS9
                        go_split_ands
                        go_simp
                        try with_reducible rfl
                      try simp only [Act.put, List.getElem_toArray, List.getElem_cons_succ, List.getElem_cons_zero, List.setIfInBounds_toArray, List.set_cons_zero, List.set_cons_succ]
                      refine wpAnyH_done (by kernel_rfl) ?_ _
                      refine Qt.last rfl rfl ?_
                      simp only [List.getElem_toArray, List.getElem_cons_succ, List.getElem_cons_zero]
                      have y7 := (KEEP.out _ _ F7 (fun z hz => hz)).2.1
                      have b7 := (KEEP.out _ _ F7 (fun z hz => hz)).1
                      go_simp
                      have HA := Lib.hid (((Sep.setRow (r' := nx ++ [(permE dn n p ev, t)]) ((S15.out.nil F9).pull 1 rfl) HU.out (by decide) rfl own7 (by simp) (by simp [arE]) hf7 (fun q hq => (hloc7 q hq).imp id (fun h => Nat.le_of_eq h.symm))).pull 1 rfl).tail)
                      clear hf7 hloc7 F7 F9 hr9 b7 y7 own7 hHeld KEEP HD S15 HGC HGZ HBX HOWN HGU HU
                      generalize w7.setCell ⟨go, k, none⟩ (.slice a7 (nx.length + 1) c7) = w8 at *
                      go_wp2_with fail
                      go_roundg (row.length - (j + 1))
                      case rel =>
                        refine ⟨j + 1, us.set k (.slice a7 (nx.length + 1) c7), rfl, by omega, by go_num, by rw [bigW_snoc HX.out, HBG3.out]; simpa using HLIM.out, ?_⟩
                        have h9 := HA.out
                        rw [permW_snoc HX.out, ← HNX.out]
                        simp only [List.eraseIdx_cons_zero, List.eraseIdx_cons_succ] at h9
                        rw [doneW_set hlt] at h9
                        exact h9
                      case measure => have := HQ3.out; omega
              · have i12 : ¬ (j : Int) < (row.length : Int) := by omega
                have hjr : j = row.length := by omega
                have hsS := S.out
                have hb3 := HBG3.out
                rw [hjr, List.take_length] at hsS hb3
                rw [done_shut HROW.out] at hsS
                have S6 := Lib.hid hsS
                have HB3 := Lib.hid hb3
                clear hsS hb3 hjr S hj
                go_wp2_with fail
                go_roundg (l.length - (k + 1))
                case rel => exact ⟨k + 1, us, rfl, by omega, by go_num, by rw [big_snoc HROW.out, HBG.out, HB3.out]; rfl, S6.out⟩
                case measure => have := HQ.out; omega
          · have i5 : ¬ (k : Int) < (l.length : Int) := by omega
            have hkl : k = l.length := by omega
            have hsS := S.out
            have hb3 := HBG.out
            rw [hkl, List.take_length] at hb3
            rw [hkl, done_all] at hsS
            have S9 := Lib.hid hsS
            have HB3 := Lib.hid hb3
            have hlat : LAt wr.heap.size wr (some ⟨go, 0, none⟩) l.length (l.map (permW dn n p)) := outC_lat (by rw [List.length_map]) (S9.out.at_ 0 rfl) (by rw [List.length_map]; omega) (fun r hr => by
              obtain ⟨r0, hr0, rfl⟩ := List.mem_map.1 hr
              have := HROWS.out r0 hr0
              rw [permW, List.length_map]
              omega)
            have hcan := canonical_any _ _ _ wr hlat (perm_loose h12 h1 hdn96 HPP.out HLO.out)
            rw [List.length_map] at hcan
            have HCAN := Lib.hid hcan
            clear hlat hcan hsS hb3 hkl S
            go_wp2_with (first
              | (go_at_call 23; refine HCAN.out.mono ?_; rintro e9 w9 ⟨ov, oldv, us9, rfl, hs10⟩; have S11 := Lib.hid (S9.out.append hs10); obtain ⟨oa, oc, rfl⟩ := ownC_shape (S11.out.at_ 0 rfl); obtain ⟨va, vc, rfl, _⟩ := owns_shape (S11.out.at_ 1 rfl).1; have d0 := (show RowAt w9 (w.heap.size + 1 + 1) 25 [.slice none 0 0] from S11.out.at_ 3 rfl).cell (i := 0) rfl; have d1 := (show RowAt w9 (w.heap.size + 1 + 1) 25 [.slice none 0 0] from S11.out.at_ 3 rfl).frozen 0; have d2 := S11.out.lt 3 rfl (k := w.heap.size + 1 + 1) (by simp [boxC]); clear hs10)
              | fail)
            obtain ⟨rl, hrl⟩ : ∃ r, r = (canB (l.map (permW dn n p))).out := ⟨_, rfl⟩
            have SF := (S11.out.putBox 3 rfl 0 (.slice va (canB (l.map (permW dn n p))).out.length vc)).nil ((Frm.refl [] _).alloc (.cells #[.slice va (canB (l.map (permW dn n p))).out.length vc] 25))
            have hcs := (show RowAt _ (w.heap.size + 1 + 1) 25 [.slice va (canB (l.map (permW dn n p))).out.length vc] from SF.at_ 3 rfl).cell (i := 0) rfl
            refine bodyPost_ret (v := .tuple #[.agg #[.slice va (canB (l.map (permW dn n p))).out.length vc], .int .i64 0]) (by simp [results, Tryz.results9, go_sem, hcs]) rfl ?_
            exact HGOOD.out HB3.out _ _ (outC_lts (SF.at_ 1 rfl)) SF.frm
    · rw [decide_eq_false hpp] at hprm
      have HPR := Lib.hid hprm
      clear hprm hlv
      have HB := Lib.hid (HBAD.out (fun h9 => by exact hpp h9.2.1))
      unfold machV
      go_enter Tryz.func9, Tryz.ntmps9
      go_wp2_with (first
        | (go_at_call 20; refine (HV.out _ S0.out.frm).mono ?_; rintro e9 w1 ⟨rfl, hf9⟩; have S1 := Lib.hid (S0.out.nil hf9); have d2 := (show RowAt w1 (w.heap.size + 1) 25 [.slice a l.length cap] from S1.out.at_ 1 rfl).cell (i := 0) rfl; clear hf9)
        | (go_at_call 21; refine (HPR.out _ S1.out.frm).mono ?_; rintro e9 wz ⟨rfl, hf9⟩; have SZ := Lib.hid (S1.out.nil hf9); have d0 := (show RowAt wz (w.heap.size + 1 + 1) 25 [.slice none 0 0] from SZ.out.at_ 0 rfl).cell (i := 0) rfl; have d1 := (show RowAt wz (w.heap.size + 1 + 1) 25 [.slice none 0 0] from SZ.out.at_ 0 rfl).frozen 0; have d2 := (show RowAt wz (w.heap.size + 1) 25 [.slice a l.length cap] from SZ.out.at_ 1 rfl).cell (i := 0) rfl; clear hf9)
        | fail)
      have c1 := (show RowAt wz (w.heap.size + 1 + 1) 25 [.slice none 0 0] from SZ.out.at_ 0 rfl).cell (i := 0) rfl
      have hcs := World.cell?_setCell_same' wz ⟨w.heap.size + 1 + 1, 0, none⟩ (.slice none 0 0) (by rw [c1]; rfl)
      refine bodyPost_ret (v := .tuple #[.agg #[.slice none 0 0], .int .i64 1]) (by simp [results, Tryz.results9, go_sem, hcs]) rfl ?_
      exact HB.out _ (SZ.out.putBox 0 rfl 0 (.slice none 0 0)).frm
end Go.Proofs.YtdknbgejhhoaiaaGreat.Ind
