/- Contract of the reference's Permute. (Printed by wip/tools/s6.py.) -/
import Derived.Test.YtdknbgejhhoaiaaGreatQ34
import Derived.Test.YtdknbgejhhoaiaaGreatQ01
import Derived.Test.YtdknbgejhhoaiaaGreatQ17
namespace Go.Proofs.YtdknbgejhhoaiaaGreat.Ind
open Go.Shelf Go.RowKit Go.Lib

/-- Rows when k of them are done, and the next is nx. -/
def doneF (f : List Ar → List Ar) (l : Lts) (k : Nat) (nx : List Ar) : List (List Ar) := (l.take k).map f ++ nx :: List.replicate (l.length - (k + 1)) []
def doneK (f : List Ar → List Ar) (l : Lts) (k : Nat) : List (List Ar) := (l.take k).map f ++ List.replicate (l.length - k) []
theorem doneF_open {f : List Ar → List Ar} {l : Lts} {k : Nat} (h : k < l.length) : doneK f l k = doneF f l k [] := by
  unfold doneK doneF
  rw [show l.length - k = (l.length - (k + 1)) + 1 by omega, List.replicate_succ]
theorem doneF_shut {f : List Ar → List Ar} {l : Lts} {k : Nat} {row : List Ar} (h : l[k]? = some row) : doneF f l k (f row) = doneK f l (k + 1) := by
  unfold doneK doneF
  rw [take_snoc h, List.map_append]
  simp
theorem doneF_all {f : List Ar → List Ar} {l : Lts} : doneK f l l.length = l.map f := by simp [doneK]
theorem doneF_at {f : List Ar → List Ar} {l : Lts} {k : Nat} {nx : List Ar} (h : k < l.length) : (doneF f l k nx)[k]? = some nx := by
  unfold doneF
  rw [List.getElem?_append_right (by rw [List.length_map, List.length_take]; omega), List.length_map, List.length_take, Nat.min_eq_left (by omega), Nat.sub_self]
  rfl
theorem doneF_set {f : List Ar → List Ar} {l : Lts} {k : Nat} {nx ny : List Ar} (h : k < l.length) : (doneF f l k nx).set k ny = doneF f l k ny := by
  unfold doneF
  have hl : ((l.take k).map f).length = k := by rw [List.length_map, List.length_take]; omega
  have := set_mid ((l.take k).map f) (List.replicate (l.length - (k + 1)) []) nx ny
  rw [hl] at this
  rw [this, List.append_assoc]
  rfl
theorem doneF_len {f : List Ar → List Ar} {l : Lts} {k : Nat} {nx : List Ar} (h : k < l.length) : (doneF f l k nx).length = l.length := by
  unfold doneF
  simp
  omega
/-- What the reference makes of a row. -/
def permS (dn n : Nat) (p : List Int) (row : List Ar) : List Ar := setG ltAr (permW dn n p row)
theorem permS_snoc {dn n : Nat} {p : List Int} {row : List Ar} {j : Nat} {x : Ar} (h : row[j]? = some x) : permS dn n p (row.take (j + 1)) = insG ltAr (permS dn n p (row.take j)) (permA dn n p x) := by
  rw [permS, permW_snoc h, setG_snoc]; rfl
theorem permS_map (dn n : Nat) (p : List Int) (l : Lts) : l.map (permS dn n p) = (l.map (permW dn n p)).map (setG ltAr) := by
  rw [List.map_map]; rfl
theorem set_looseGo {N : Nat} : ∀ (l : Lts) (c c' : Nat), c' ≤ c → looseGo N c l = true → looseGo N c' (l.map (setG ltAr)) = true
  | [], _, _, _, _ => rfl
  | row :: r, c, c', hc, h => by
    simp only [looseGo, Bool.and_eq_true, decide_eq_true_eq] at h
    have hl : (setG ltAr row).length ≤ row.length := setG_le ltAr row
    simp only [List.map_cons, looseGo, Bool.and_eq_true, decide_eq_true_eq]
    refine ⟨by omega, ?_, set_looseGo r _ _ (by omega) h.2.2⟩
    rw [List.all_eq_true]
    intro x hx
    exact List.all_eq_true.1 h.2.1 x ((mem_setG sto_Ar).1 hx)
theorem set_loose {l : Lts} (h : looseB l = true) : looseB (l.map (setG ltAr)) = true := by
  simp only [looseB, Bool.and_eq_true, decide_eq_true_eq] at h ⊢
  rw [List.length_map]
  exact ⟨h.1, set_looseGo _ _ _ (Nat.le_refl _) h.2⟩
theorem hasB_true {xs : List Int} {x : Int} (h : hasB xs x = true) : x ∈ xs := by
  obtain ⟨y, hy, e⟩ := List.any_eq_true.1 h
  have e2 : y = x := by simpa using e
  rw [← e2]; exact hy
theorem hasB_false {xs : List Int} {x : Int} (h : hasB xs x = false) : x ∉ xs := fun hm => by
  have : hasB xs x = true := List.any_eq_true.2 ⟨x, hm, by simp⟩
  rw [h] at this
  cases this
/-- Of the rows that have not been begun the slices are nil. -/
def NilFrom (us : List Value) (k n : Nat) : Prop := ∀ i, k ≤ i → i < n → us[i]? = some (.slice none 0 0)

set_option linter.unusedSimpArgs false in
set_option maxRecDepth 100000 in
set_option maxHeartbeats 16000000 in
theorem refPermute_any (w : World) (m : RM) (sv pv : Value) (n : Nat) (p : List Int) (a : Option Addr) (cap : Nat) (l : Lts) (hm : StatesAt w [] sv m.states) (hp : RowV w [] pv p.length 1 (ints p)) (h : LAt w.heap.size w a cap l) (h1 : 1 ≤ n) (h12 : n ≤ 12) :
    Calls Tryz.prog 10 #[machV m sv, .int .i64 n, pv, .agg #[.slice a l.length cap]] w (PermEnd w m n p l) := by
  obtain ⟨sa, sc, rfl, _⟩ := statesShape hm
  obtain ⟨pa, pc, rfl⟩ := RowV.shape hp
  have hval := fun W (hf : Frm [] w W) => validMachine_any W m (.slice sa m.states.length sc) (hm.nil hf)
  have hhas := fun W (hf : Frm [] w W) (v : Int) => has_any w.heap.size pa pc p v W ((hp.rd).nil hf)
  have hlv := fun W (hf : Frm [] w W) => Go.Proofs.YtdknbgejhhoaiaaGreat.refValid_any w.heap.size a cap l W (h.nil hf rfl)
  have i1 : ¬ (n : Int) < 1 := by omega
  have i2 : ¬ (12 : Int) < (n : Int) := by omega
  have s0 : Sep w (((w.alloc (.cells #[.int .i64 m.regs, .int .i64 m.data, .int .i64 m.plain, .slice sa m.states.length sc] 30)).alloc (.cells #[.slice a l.length cap] 25)).alloc (.cells #[.slice none 0 0] 25)) [boxC (w.heap.size + 1 + 1) 25 [.slice none 0 0], boxC (w.heap.size + 1) 25 [.slice a l.length cap], boxC w.heap.size 30 (mboxC m (.slice sa m.states.length sc))] :=
    (((Sep.start w).add (boxC w.heap.size 30 (mboxC m (.slice sa m.states.length sc))) ((Frm.refl [] w).alloc _) (RowAt.made w _ _ _ rfl) (by simp [boxC])).add (boxC (w.heap.size + 1) 25 [.slice a l.length cap]) ((Frm.refl [] _).alloc _) (row_made1 w _ _ _ _ rfl) (by simp [boxC])).add (boxC (w.heap.size + 1 + 1) 25 [.slice none 0 0]) ((Frm.refl [] _).alloc _) (by
      have := row_made1 (w.alloc (.cells #[.int .i64 m.regs, .int .i64 m.data, .int .i64 m.plain, .slice sa m.states.length sc] 30)) (.cells #[.slice a l.length cap] 25) 25 [.slice none 0 0] #[.slice none 0 0] rfl
      rw [show (w.alloc (.cells #[.int .i64 m.regs, .int .i64 m.data, .int .i64 m.plain, .slice sa m.states.length sc] 30)).heap.size = w.heap.size + 1 from by simp] at this
      exact this) (by simp [boxC])
  have S0 := Lib.hid s0
  have HP := Lib.hid hp
  have H := Lib.hid h
  have HBAD : Hid (¬ PermOk m n p l → ∀ (W : World), Frm [] w W → PermEnd w m n p l (.returned (.tuple #[.agg #[.slice none 0 0], .int .i64 1])) W) := Lib.hid fun hb W hf => ⟨.inr ⟨hb, rfl⟩, hf⟩
  have HHAS := Lib.hid hhas
  clear s0 hp h hm hhas
  cases hvm : validM m with
  | false =>
    rw [hvm] at hval
    have HV := Lib.hid hval
    clear hval hlv
    have HB := Lib.hid (HBAD.out (fun h9 => by have := h9.1; rw [hvm] at this; cases this))
    unfold machV
    go_enter Tryz.func10, Tryz.ntmps10
    go_wp2_with (first
      | (go_at_call 24; refine (HV.out _ S0.out.frm).mono ?_; rintro e9 wz ⟨rfl, hf9⟩; have SZ := Lib.hid (S0.out.nil hf9); have d0 := (show RowAt wz (w.heap.size + 1 + 1) 25 [.slice none 0 0] from SZ.out.at_ 0 rfl).cell (i := 0) rfl; have d1 := (show RowAt wz (w.heap.size + 1 + 1) 25 [.slice none 0 0] from SZ.out.at_ 0 rfl).frozen 0; have d2 := (show RowAt wz (w.heap.size + 1) 25 [.slice a l.length cap] from SZ.out.at_ 1 rfl).cell (i := 0) rfl; clear hf9)
      | fail)
    have c1 := (show RowAt wz (w.heap.size + 1 + 1) 25 [.slice none 0 0] from SZ.out.at_ 0 rfl).cell (i := 0) rfl
    have hcs := World.cell?_setCell_same' wz ⟨w.heap.size + 1 + 1, 0, none⟩ (.slice none 0 0) (by rw [c1]; rfl)
    refine bodyPost_ret (v := .tuple #[.agg #[.slice none 0 0], .int .i64 1]) (by simp [results, Tryz.results10, go_sem, hcs]) rfl ?_
    exact HB.out _ (SZ.out.putBox 0 rfl 0 (.slice none 0 0)).frm
  | true =>
    rw [hvm] at hval
    have HV := Lib.hid hval
    clear hval
    by_cases hpn : p.length = n
    · obtain ⟨v0, hv0⟩ : ∃ v, p[0]? = some v := ⟨_, List.getElem?_eq_getElem (by omega)⟩
      obtain ⟨_, pa', pc', e5, hpc1, hpc2, _, hpcell⟩ := HP.out
      obtain ⟨rfl, rfl⟩ : pa = pa' ∧ pc = pc' := by simpa using e5
      obtain ⟨pb, po, rfl, _, hpb, hpc⟩ := hpcell 0 (.int .i64 v0) (by simp [ints, hv0])
      rw [Nat.add_zero] at hpc
      have HPC := Lib.hid hpc
      have HV0 := Lib.hid hv0
      have HPN := Lib.hid hpn
      have n1 : ((p.length : Int) != (n : Int)) = false := by simp [hpn]
      have n2 : (0 : Int) < (p.length : Int) := by omega
      clear hpcell e5 hpc1 hpc2 hpc hv0 hpn
      by_cases hz0 : v0 = 0
      · subst hz0
        cases hlb : validB l with
        | false =>
          rw [hlb] at hlv
          have HLV := Lib.hid hlv
          clear hlv
          have HB := Lib.hid (HBAD.out (fun h9 => by have := h9.2.2.1; rw [hlb] at this; cases this))
          unfold machV
          go_enter Tryz.func10, Tryz.ntmps10
          go_wp2_with (first
            | (go_at_call 24; refine (HV.out _ S0.out.frm).mono ?_; rintro e9 w1 ⟨rfl, hf9⟩; have S1 := Lib.hid (S0.out.nil hf9); have d2 := (show RowAt w1 (w.heap.size + 1) 25 [.slice a l.length cap] from S1.out.at_ 1 rfl).cell (i := 0) rfl; have p0 := S1.out.frm.cell HPC.out (by simp); clear hf9)
            | (go_at_call 25; refine (HLV.out _ S1.out.frm).mono ?_; rintro e9 wz ⟨rfl, hf9⟩; have SZ := Lib.hid (S1.out.nil hf9); have d0 := (show RowAt wz (w.heap.size + 1 + 1) 25 [.slice none 0 0] from SZ.out.at_ 0 rfl).cell (i := 0) rfl; have d1 := (show RowAt wz (w.heap.size + 1 + 1) 25 [.slice none 0 0] from SZ.out.at_ 0 rfl).frozen 0; have d2 := (show RowAt wz (w.heap.size + 1) 25 [.slice a l.length cap] from SZ.out.at_ 1 rfl).cell (i := 0) rfl; clear hf9)
            | fail)
          have c1 := (show RowAt wz (w.heap.size + 1 + 1) 25 [.slice none 0 0] from SZ.out.at_ 0 rfl).cell (i := 0) rfl
          have hcs := World.cell?_setCell_same' wz ⟨w.heap.size + 1 + 1, 0, none⟩ (.slice none 0 0) (by rw [c1]; rfl)
          refine bodyPost_ret (v := .tuple #[.agg #[.slice none 0 0], .int .i64 1]) (by simp [results, Tryz.results10, go_sem, hcs]) rfl ?_
          exact HB.out _ (SZ.out.putBox 0 rfl 0 (.slice none 0 0)).frm
        | true =>
          rw [hlb] at hlv
          have HLV := Lib.hid hlv
          have HVM := Lib.hid hvm
          have HLB := Lib.hid hlb
          clear hlv hvm hlb
          unfold machV
          go_enter Tryz.func10, Tryz.ntmps10
          go_wp2_with (first
            | (go_at_call 24; refine (HV.out _ S0.out.frm).mono ?_; rintro e9 w1 ⟨rfl, hf9⟩; have S1 := Lib.hid (S0.out.nil hf9); have d2 := (show RowAt w1 (w.heap.size + 1) 25 [.slice a l.length cap] from S1.out.at_ 1 rfl).cell (i := 0) rfl; have p0 := S1.out.frm.cell HPC.out (by simp); clear hf9)
            | (go_at_call 25; refine (HLV.out _ S1.out.frm).mono ?_; rintro e9 w2 ⟨rfl, hf9⟩; have S2 := Lib.hid (S1.out.nil hf9); have d2 := (show RowAt w2 (w.heap.size + 1) 25 [.slice a l.length cap] from S2.out.at_ 1 rfl).cell (i := 0) rfl; clear hf9)
            | fail)
          clear S0 S1
          go_loopg [10] n (fun q t10 wr => ∃ (k : Nat), q = n - k ∧ k ≤ n ∧ t10 = .int .i64 k ∧ (∀ v : Nat, v < k → (v : Int) ∈ p) ∧ Sep w wr [boxC (w.heap.size + 1 + 1) 25 [.slice none 0 0], boxC (w.heap.size + 1) 25 [.slice a l.length cap], boxC w.heap.size 30 (mboxC m (.slice sa m.states.length sc))])
          case atStart => exact ⟨0, rfl, Nat.zero_le _, rfl, fun v hv => absurd hv (Nat.not_lt_zero _), S2.out⟩
          case round =>
            clear S2
            obtain ⟨k, hq, hk, rfl, hall, hs⟩ := hrel
            have HQ := Lib.hid hq
            have HALL := Lib.hid hall
            have S := Lib.hid hs
            have i4 : (0 : Int) ≤ (k : Int) := by omega
            clear hq hall hs
            by_cases hlt : k < n
            · have i5 : (k : Int) < (n : Int) := by omega
              have hcall := HHAS.out wr S.out.frm (k : Int)
              cases hkb : hasB p (k : Int) with
              | true =>
                rw [hkb] at hcall
                have HKM := Lib.hid (hasB_true hkb)
                go_wp2_with fail
                refine hcall.mono ?_
                rintro e9 w9 ⟨rfl, hf9⟩
                have S6 := Lib.hid (S.out.nil hf9)
                clear hf9
                go_wp2_with fail
                go_roundg (n - (k + 1))
                case rel =>
                  refine ⟨k + 1, rfl, by omega, by go_num, fun v hv => ?_, S6.out⟩
                  by_cases e : v = k
                  · rw [e]; exact HKM.out
                  · exact HALL.out v (by omega)
                case measure => have := HQ.out; omega
              | false =>
                rw [hkb] at hcall
                have HB := Lib.hid (HBAD.out (fun h9 => hasB_false hkb ((permP_iff.1 h9.2.1).2.2 k hlt)))
                go_wp2_with fail
                refine hcall.mono ?_
                rintro e9 w9 ⟨rfl, hf9⟩
                have S6 := Lib.hid (S.out.nil hf9)
                have d0 := (show RowAt w9 (w.heap.size + 1 + 1) 25 [.slice none 0 0] from S6.out.at_ 0 rfl).cell (i := 0) rfl
                have d1 := (show RowAt w9 (w.heap.size + 1 + 1) 25 [.slice none 0 0] from S6.out.at_ 0 rfl).frozen 0
                clear hf9
                go_wp2_with fail
                have SF := S6.out.putBox 0 rfl 0 (.slice none 0 0)
                have c1 := (show RowAt _ (w.heap.size + 1 + 1) 25 [.slice none 0 0] from SF.at_ 0 rfl).cell (i := 0) rfl
                refine bodyPost_ret (v := .tuple #[.agg #[.slice none 0 0], .int .i64 1]) (by simp [results, Tryz.results10, go_sem, c1]) rfl ?_
                exact HB.out _ SF.frm
            · have i5 : ¬ (k : Int) < (n : Int) := by omega
              have hpp : PermP p n := permP_iff.2 ⟨HPN.out, HV0.out, fun v hv => HALL.out v (by omega)⟩
              have hrm := validM_ok HVM.out
              obtain ⟨d, hd⟩ : ∃ d : Nat, m.data = d := ⟨m.data.toNat, by have := hrm.d0; omega⟩
              obtain ⟨pl, hpl⟩ : ∃ q : Nat, m.plain = q := ⟨m.plain.toNat, by have := hrm.p0; omega⟩
              have hd8 : d ≤ 8 := by have := hrm.d1; omega
              have hp8 : pl ≤ 8 := by have := hrm.p1; omega
              obtain ⟨dn, hdn⟩ : ∃ dn : Nat, dn = d * n := ⟨_, rfl⟩
              have hdn96 : dn ≤ 96 := by rw [hdn]; exact Nat.le_trans (Nat.mul_le_mul hd8 h12) (by decide)
              have hcast : m.data * (n : Int) = (dn : Int) := by rw [hd, hdn]; exact (Int.natCast_mul d n).symm
              have x1 : IntKind.i64.wrap ((d : Int) * (n : Int)) = (dn : Int) := by
                rw [show (d : Int) * (n : Int) = (dn : Int) from by rw [← hcast, hd]]
                exact IntWalk.i64_in _ (by omega)
              have x2 : IntKind.i64.wrap (2 + (dn : Int)) = 2 + (dn : Int) := IntWalk.i64_in _ (by omega)
              have x3 : IntKind.i64.wrap (2 + (dn : Int) + (pl : Int)) = 2 + (dn : Int) + (pl : Int) := IntWalk.i64_in _ (by omega)
              have hlo : looseB l = true := by
                have := HLB.out
                simp only [validB, Bool.and_eq_true] at this
                exact this.1
              obtain ⟨hn1, hn2, hinto, hrows⟩ := loose_facts hlo
              have HGOOD : Hid (bigE (2 + (dn : Int) + pl) l = false → ∀ (W : World) (ov : Value), LtsAt W [] ov (canB (l.map (permW dn n p))).out → Frm [] w W → PermEnd w m n p l (.returned (.tuple #[.agg #[ov], .int .i64 0])) W) := Lib.hid fun hb W ov hl hf => ⟨.inl ⟨⟨HVM.out, hpp, HLB.out, by rw [hcast, hpl]; exact hb⟩, ov, rfl, by rw [hcast, Int.toNat_natCast]; exact hl⟩, hf⟩
              have HBIG : Hid (bigE (2 + (dn : Int) + pl) l = true → ∀ (W : World), Frm [] w W → PermEnd w m n p l (.returned (.tuple #[.agg #[.slice none 0 0], .int .i64 1])) W) := Lib.hid fun hb W hf => HBAD.out (fun h9 => by
                have := h9.2.2.2
                rw [hcast, hpl, hb] at this
                cases this) W hf
              have HLO := Lib.hid hlo
              have HROWS := Lib.hid hrows
              have HPP := Lib.hid hpp
              have HARC : Hid (∀ row ∈ l, ∀ x ∈ row, 0 ≤ x.1 ∧ x.1 ≤ 1025) := Lib.hid (by
                simp only [looseB, Bool.and_eq_true, decide_eq_true_eq] at hlo
                exact fun row hr x hx => ⟨((loose_row _ _ _ hlo.2 row hr).2 x hx).1, ((loose_row _ _ _ hlo.2 row hr).2 x hx).2.1⟩)
              have HPM := Lib.hid hd
              have HPL := Lib.hid hpl
              obtain ⟨r00, hr00⟩ : ∃ r, l[0]? = some r := ⟨_, List.getElem?_eq_getElem (by omega)⟩
              obtain ⟨lb, lo, _, _, rfl, hlb2, _, _⟩ := H.out.cell 0 r00 hr00
              have hcapl : (l.length : Int) ≤ (cap : Int) := by have := H.out.le; omega
              have il1 : (0 : Int) < (l.length : Int) := by omega
              have il2 : (l.length : Int) ≤ 16384 := by omega
              have d2 := (show RowAt wr (w.heap.size + 1) 25 [.slice (some ⟨lb, lo, none⟩) l.length cap] from S.out.at_ 1 rfl).cell (i := 0) rfl
              obtain ⟨w3, hw3⟩ : ∃ x, x = wr := ⟨wr, rfl⟩
              subst hw3
              clear hlo hinto hrows hr00 hlb2 hpp hrm hcast hdn hpl hd HBAD hk hlt HQ HALL HHAS
              go_wp2_with (first
                | (at_make; refine wpl_make_rowsC _ rfl (.tmp 59) rfl _ l.length rfl rfl (by omega) ?_)
                | (at_make; fail))
              intro w4 hr4 hf4
              have S4 := Lib.hid (S.out.add (outC (.slice (some ⟨w3.heap.size, 0, none⟩) l.length l.length) (List.replicate l.length (.slice none 0 0)) (List.replicate l.length [])) hf4 hr4 (fun k hk => by
                rcases List.mem_append.1 hk with h9 | h9
                · simp [Value.ownBlock] at h9
                  omega
                · obtain ⟨u, hu, h8⟩ := List.mem_flatMap.1 h9
                  rw [(List.mem_replicate.1 hu).2] at h8
                  simp [Value.ownBlock] at h8))
              clear hr4 hf4 d2
              obtain ⟨go, hgo⟩ : ∃ g, g = w3.heap.size := ⟨_, rfl⟩
              rw [← hgo] at S4 ⊢
              clear hgo S
              go_wp2_with fail
              obtain ⟨V, hV⟩ : ∃ V, V = w4.alloc (.cells #[.slice (some ⟨go, 0, none⟩) l.length l.length] 25) := ⟨_, rfl⟩
              have S5 : Hid (Sep w V (boxC w4.heap.size 25 [.slice (some ⟨go, 0, none⟩) l.length l.length] :: _)) := Lib.hid (by
                rw [hV]
                exact S4.out.add (boxC w4.heap.size 25 [.slice (some ⟨go, 0, none⟩) l.length l.length]) ((Frm.refl [] w4).alloc (.cells #[.slice (some ⟨go, 0, none⟩) l.length l.length] 25)) (RowAt.made w4 _ _ _ rfl) (by simp [boxC]))
              rw [← hV]
              generalize w4.heap.size = b11 at *
              clear hV S4
              go_loopg [12] l.length (fun q t12 wr => ∃ (k : Nat) (us : List Value), q = l.length - k ∧ k ≤ l.length ∧ t12 = .int .i64 k ∧ bigE (2 + (dn : Int) + pl) (l.take k) = false ∧ NilFrom us k l.length ∧ Sep w wr [boxC b11 25 [.slice (some ⟨go, 0, none⟩) l.length l.length], outC (.slice (some ⟨go, 0, none⟩) l.length l.length) us (doneK (permS dn n p) l k), boxC (w.heap.size + 1 + 1) 25 [.slice none 0 0], boxC (w.heap.size + 1) 25 [.slice (some ⟨lb, lo, none⟩) l.length cap], boxC w.heap.size 30 (mboxC m (.slice sa m.states.length sc))])
              case atStart => exact ⟨0, _, rfl, Nat.zero_le _, rfl, rfl, fun i _ hi => by rw [List.getElem?_replicate, if_pos hi], S5.out⟩
              case round =>
                clear S5
                obtain ⟨k, us, hq, hk, rfl, hbig, hnf, hs⟩ := hrel
                have HQ := Lib.hid hq
                have HBG := Lib.hid hbig
                have HNF := Lib.hid hnf
                have S := Lib.hid hs
                have i4 : (0 : Int) ≤ (k : Int) := by omega
                have d7 := (show RowAt wr (w.heap.size + 1) 25 [.slice (some ⟨lb, lo, none⟩) l.length cap] from S.out.at_ 3 rfl).cell (i := 0) rfl
                clear hq hbig hnf hs
                by_cases hlt : k < l.length
                · have i5 : (k : Int) < (l.length : Int) := by omega
                  obtain ⟨row, hrow⟩ : ∃ row, l[k]? = some row := ⟨_, List.getElem?_eq_getElem hlt⟩
                  obtain ⟨lb', lo', ra, rc, e1, _, hcl, hrr⟩ := H.out.cell k row hrow
                  obtain ⟨rfl, rfl⟩ : lb = lb' ∧ lo = lo' := by simpa using e1
                  have hrlen : row.length ≤ 262144 := HROWS.out row (List.mem_of_getElem? hrow)
                  have hrlt : (row.length : Int) ≤ 262144 := by omega
                  have hrc : (row.length : Int) ≤ (rc : Int) := by have := hrr.1; omega
                  have HROW := Lib.hid hrow
                  have HRR := Lib.hid hrr
                  have HCL := Lib.hid hcl
                  have S5 : Hid (Sep w wr [boxC b11 25 [.slice (some ⟨go, 0, none⟩) l.length l.length], outC (.slice (some ⟨go, 0, none⟩) l.length l.length) us (doneF (permS dn n p) l k (permS dn n p (row.take 0))), boxC (w.heap.size + 1 + 1) 25 [.slice none 0 0], boxC (w.heap.size + 1) 25 [.slice (some ⟨lb, lo, none⟩) l.length cap], boxC w.heap.size 30 (mboxC m (.slice sa m.states.length sc))]) := Lib.hid (by
                    have := S.out
                    rw [doneF_open hlt] at this
                    exact this)
                  clear hcl hrr hrow e1 S
                  go_wp2_with fail
                  clear d7
                  go_loopg [13] row.length (fun q t13 wr => ∃ (j : Nat) (us : List Value) (ua : Option Addr) (uc : Nat) (nx : List Ar), q = row.length - j ∧ j ≤ row.length ∧ t13 = .int .i64 j ∧ bigW (2 + (dn : Int) + pl) (row.take j) = false ∧ NilFrom us (k + 1) l.length ∧ nx = permS dn n p (row.take j) ∧ us[k]? = some (.slice ua nx.length uc) ∧ (nx = [] → ua = none ∧ uc = 0) ∧ Sep w wr [boxC b11 25 [.slice (some ⟨go, 0, none⟩) l.length l.length], outC (.slice (some ⟨go, 0, none⟩) l.length l.length) us (doneF (permS dn n p) l k nx), boxC (w.heap.size + 1 + 1) 25 [.slice none 0 0], boxC (w.heap.size + 1) 25 [.slice (some ⟨lb, lo, none⟩) l.length cap], boxC w.heap.size 30 (mboxC m (.slice sa m.states.length sc))])
                  case atStart => exact ⟨0, us, none, 0, [], rfl, Nat.zero_le _, rfl, rfl, fun i h1 h2 => HNF.out i (by omega) h2, rfl, HNF.out k (Nat.le_refl _) hlt, fun _ => ⟨rfl, rfl⟩, S5.out⟩
                  case round =>
                    clear S5
                    obtain ⟨j, us, ua, uc, nx, hq3, hj, rfl, hbig3, hnf3, hnx, huk, hnl, hs⟩ := hrel
                    have HQ3 := Lib.hid hq3
                    have HBG3 := Lib.hid hbig3
                    have HNF3 := Lib.hid hnf3
                    have HNX := Lib.hid hnx
                    have HUK := Lib.hid huk
                    have HNLX := Lib.hid hnl
                    have S := Lib.hid hs
                    have i11 : (0 : Int) ≤ (j : Int) := by omega
                    have d7 := (show RowAt wr (w.heap.size + 1) 25 [.slice (some ⟨lb, lo, none⟩) l.length cap] from S.out.at_ 3 rfl).cell (i := 0) rfl
                    have k1 := S.out.frm.cell HCL.out (by simp)
                    have HNXL : Hid (nx.length ≤ 262144) := Lib.hid (by
                      rw [hnx, permS]
                      have h8 : (setG ltAr (permW dn n p (row.take j))).length ≤ (permW dn n p (row.take j)).length := setG_le ltAr _
                      rw [permW, List.length_map, List.length_take] at h8
                      rw [permW]
                      omega)
                    clear hq3 hbig3 hnf3 hnx huk hnl hs
                    by_cases hjl : j < row.length
                    · have i12 : (j : Int) < (row.length : Int) := by omega
                      obtain ⟨⟨ev, t⟩, hx⟩ : ∃ x, row[j]? = some x := ⟨_, List.getElem?_eq_getElem hjl⟩
                      obtain ⟨rb, ro, rfl, hrb, hr0, hr1⟩ := HRR.out.2.2.2 j ev t hx
                      obtain ⟨hev0, hev1⟩ := HARC.out row (List.mem_of_getElem? HROW.out) _ (List.mem_of_getElem? hx)
                      simp only at hev0 hev1
                      have m3 := S.out.frm.cell hr0 (by simp)
                      have m4 := S.out.frm.cell hr1 (by simp)
                      have m5 := (show RowAt wr w.heap.size 30 (mboxC m (.slice sa m.states.length sc)) from S.out.at_ 4 rfl).cell (i := 2) (v := .int .i64 pl) (by rw [← HPL.out]; rfl)
                      have m6 := (show RowAt wr w.heap.size 30 (mboxC m (.slice sa m.states.length sc)) from S.out.at_ 4 rfl).cell (i := 1) (v := .int .i64 d) (by rw [← HPM.out]; rfl)
                      have lb0 : w.heap.size < wr.heap.size := S.out.lt 4 rfl (by simp [boxC])
                      have lb8 : w.heap.size + 1 + 1 < wr.heap.size := S.out.lt 2 rfl (by simp [boxC])
                      have HX := Lib.hid hx
                      have SX := Lib.hid (S.out.add (boxC wr.heap.size 55 [.int .i64 ev, .int .i64 t]) ((Frm.refl [] wr).alloc (.cells #[.int .i64 ev, .int .i64 t] 55)) (RowAt.made wr _ _ _ rfl) (by simp [boxC]))
                      have y1 := (show RowAt wr (w.heap.size + 1 + 1) 25 [.slice none 0 0] from S.out.at_ 2 rfl).cell (i := 0) rfl
                      have y2 := (show RowAt wr (w.heap.size + 1 + 1) 25 [.slice none 0 0] from S.out.at_ 2 rfl).frozen 0
                      clear hx hr0 hr1
                      by_cases hlim : 2 + (dn : Int) + (pl : Int) ≤ ev
                      · have HB := Lib.hid (HBIG.out (bigE_in (List.mem_of_getElem? HROW.out) (bigW_in (List.mem_of_getElem? HX.out) hlim)))
                        go_wp2_with fail
                        have SF := (S.out.putBox 2 rfl 0 (.slice none 0 0)).nil ((Frm.refl [] _).alloc (.cells #[.int .i64 ev, .int .i64 t] 55))
                        have c1 := (show RowAt _ (w.heap.size + 1 + 1) 25 [.slice none 0 0] from SF.at_ 2 rfl).cell (i := 0) rfl
                        refine bodyPost_ret (v := .tuple #[.agg #[.slice none 0 0], .int .i64 1]) (by simp [results, Tryz.results10, go_sem, c1]) rfl ?_
                        exact HB.out _ SF.frm
                      · have HLIM := Lib.hid hlim
                        by_cases hin : 2 ≤ ev ∧ ev < 2 + (dn : Int)
                        · obtain ⟨e, he⟩ : ∃ e : Nat, ev - 2 = (e : Int) := ⟨(ev - 2).toNat, by omega⟩
                          have x4 : IntKind.i64.wrap (ev - 2) = (e : Int) := by rw [IntWalk.i64_in _ (by omega)]; exact he
                          have x5 : (2 : Int) ≤ ev := hin.1
                          have x6 := hin.2
                          have x9 : (0 : Int) ≤ (e : Int) := by omega
                          obtain ⟨pv, hpv⟩ : ∃ pv, p[e % n]? = some pv := ⟨_, List.getElem?_eq_getElem (by rw [HPP.out.1]; exact Nat.mod_lt _ (by omega))⟩
                          obtain ⟨_, pa', pc', e5, hpc1, hpc2, _, hpcell⟩ := HP.out
                          obtain ⟨e6, rfl⟩ : some ⟨pb, po, none⟩ = pa' ∧ pc = pc' := by simpa using e5
                          subst e6
                          obtain ⟨pb', po', e7, _, hpb2, hpc⟩ := hpcell (e % n) (.int .i64 pv) (by simp [ints, hpv])
                          obtain ⟨rfl, rfl⟩ : pb = pb' ∧ po = po' := by simpa using e7
                          have m8 := S.out.frm.cell hpc (by simp)
                          have x7 : ((e % n : Nat) : Int) < (p.length : Int) := by
                            rw [HPP.out.1]
                            have := Nat.mod_lt e (show 0 < n by omega)
                            omega
                          have hpbw : pb < wr.heap.size := Nat.lt_of_lt_of_le hpb2 S.out.frm.size
                          have x8 : ¬ (n : Int) = 0 := by omega
                          have HPE := Lib.hid (perm_val h1 h12 he x6 hdn96 hpv HPP.out)
                          clear hpcell e5 e7 hpc1 hpc2 hpv hpc
                          go_wp2_with fail
                          go_region
                          rw [HPE.out]
                          have S15 := Lib.hid ((S.out.add (boxC wr.heap.size 55 [.int .i64 (permE dn n p ev), .int .i64 t]) ((Frm.refl [] wr).alloc (.cells #[.int .i64 (permE dn n p ev), .int .i64 t] 55)) (RowAt.made wr _ _ _ rfl) (by simp [boxC])).nil (Frm.refl [] _).drew)
                          clear m8 x7 x8 x9 hpbw HPE x4 x5 x6
                          generalize hWW : (wr.alloc (.cells #[.int .i64 (permE dn n p ev), .int .i64 t] 55)).drew = W15 at *
                          generalize wr.heap.size = xb at *
                          clear hWW SX S y1 y2 m3 m4 m5 m6 lb0 lb8 d7 k1
                          obtain ⟨u', hu, hown⟩ := (S15.out.at_ 2 rfl).2.2 k nx (doneF_at hlt)
                          obtain rfl : Value.slice ua nx.length uc = u' := by
                            rw [HUK.out] at hu
                            exact Option.some.inj hu
                          obtain ⟨gc, gz⟩ := ownsC_cell (S15.out.at_ 2 rfl) hu
                          have HGC := Lib.hid gc
                          have HGZ := Lib.hid gz
                          have HBX := Lib.hid (show RowAt W15 xb 55 [.int .i64 (permE dn n p ev), .int .i64 t] from S15.out.at_ 0 rfl)
                          have HB11 := Lib.hid (show RowAt W15 b11 25 [.slice (some ⟨go, 0, none⟩) l.length l.length] from S15.out.at_ 1 rfl)
                          have HOWN := Lib.hid hown
                          have HU := Lib.hid hu
                          clear gc gz hown hu
                          have KEEP : Hid (∀ (w' : World), Frm [] W15 w' → w'.cell? ⟨b11, 0, none⟩ = some (.slice (some ⟨go, 0, none⟩) l.length l.length) ∧ w'.cell? ⟨go, k, none⟩ = some (.slice ua nx.length uc) ∧ w'.frozen? ⟨go, k, none⟩ = false ∧ w'.cell? ⟨xb, 0, none⟩ = some (.int .i64 (permE dn n p ev)) ∧ w'.cell? ⟨xb, 1, none⟩ = some (.int .i64 t)) := Lib.hid fun w' hf => by
                            have hx := HBX.out.frm hf (by simp)
                            exact ⟨(HB11.out.frm hf (by simp)).cell (i := 0) rfl, hf.cell HGC.out (by simp), hf.frz HGC.out HGZ.out (by simp), hx.cell (i := 0) rfl, hx.cell (i := 1) rfl⟩
                          have HD : Hid (Frm [] W15 W15.drew) := Lib.hid (Frm.refl [] W15).drew
                          have HIA : Hid (∀ W', Frm [] W15 W' → Calls Tryz.prog 18 #[.slice ua nx.length uc, .agg #[.int .i64 (permE dn n p ev), .int .i64 t]] W' fun e w' => (∃ a' cp', e = .returned (.slice a' (insG ltAr nx (permE dn n p ev, t)).length cp') ∧ w'.ownsRow 0 55 2 (.slice a' (insG ltAr nx (permE dn n p ev, t)).length cp') (insG ltAr nx (permE dn n p ev, t)).length ((insG ltAr nx (permE dn n p ev, t)).flatMap arE) ∧ ∀ b, (Value.slice a' (insG ltAr nx (permE dn n p ev, t)).length cp').ownBlock = some b → (Value.slice ua nx.length uc).ownBlock = some b ∨ W'.heap.size ≤ b) ∧ Frm [] W' w') := Lib.hid fun W' hf => insA_any 0 ua uc nx (permE dn n p ev, t) W' (owns_frm HOWN.out hf (by simp)) HNLX.out (by have := HNXL.out; omega) (Nat.zero_le _)
                          go_wp2_with fail
                          refine' wp_region_last (L := 11) _ (fun w' => w'.cell? ⟨b11, 0, none⟩ = some (.slice (some ⟨go, 0, none⟩) l.length l.length) ∧ w'.cell? ⟨go, k, none⟩ = some (.slice ua nx.length uc) ∧ w'.frozen? ⟨go, k, none⟩ = false ∧ w'.cell? ⟨xb, 0, none⟩ = some (.int .i64 (permE dn n p ev)) ∧ w'.cell? ⟨xb, 1, none⟩ = some (.int .i64 t)) (by kernel_rfl) rfl rfl rfl rfl ?he (by kernel_rfl) (by kernel_rfl) ?hS ?h
                          case he =>
                            simp only [nopOf, List.getElem_toArray, List.getElem_cons_succ, List.getElem_cons_zero, List.setIfInBounds_toArray, List.set_cons_succ, List.set_cons_zero]
                            rfl
                          case hS => exact KEEP.out _ HD.out
                          intro hHeld
                          refine wpAnyH_take (i := 0) (v := ?_) rfl (by kernel_rfl) (by kernel_rfl) (by kernel_rfl) (fun _ _ _ h => h) (Or.inl ⟨by rfl, ?_⟩) (by assumption) ?_
                          rotate_left
                          · intro w9 hS9
                            try dsimp only at hS9
                            go_split_ands
                            go_simp
                            try with_reducible rfl
                          try simp only [Act.put, List.getElem_toArray, List.getElem_cons_succ, List.getElem_cons_zero, List.setIfInBounds_toArray, List.set_cons_zero, List.set_cons_succ]
                          refine wpAnyH_take (i := 1) (v := ?_) rfl (by kernel_rfl) (by kernel_rfl) (by kernel_rfl) (fun _ _ _ h => h) (Or.inl ⟨by rfl, ?_⟩) (by assumption) ?_
                          rotate_left
                          · intro w9 hS9
                            try dsimp only at hS9
                            go_split_ands
                            go_simp
                            try with_reducible rfl
                          try simp only [Act.put, List.getElem_toArray, List.getElem_cons_succ, List.getElem_cons_zero, List.setIfInBounds_toArray, List.set_cons_zero, List.set_cons_succ]
                          refine wpAnyH_take (i := 2) (v := ?_) rfl (by kernel_rfl) (by kernel_rfl) (by kernel_rfl) (fun _ _ _ h => h) (Or.inl ⟨by rfl, ?_⟩) (by assumption) ?_
                          rotate_left
                          · intro w9 hS9
                            try dsimp only at hS9
                            go_split_ands
                            go_simp
                            try with_reducible rfl
                          try simp only [Act.put, List.getElem_toArray, List.getElem_cons_succ, List.getElem_cons_zero, List.setIfInBounds_toArray, List.set_cons_zero, List.set_cons_succ]
                          refine wpAnyH_take (i := 3) (v := ?_) rfl (by kernel_rfl) (by kernel_rfl) (by kernel_rfl) (fun _ _ _ h => h) (Or.inl ⟨by rfl, ?_⟩) (by assumption) ?_
                          rotate_left
                          · intro w9 hS9
                            try dsimp only at hS9
                            go_split_ands
                            go_simp
                            try with_reducible rfl
                          try simp only [Act.put, List.getElem_toArray, List.getElem_cons_succ, List.getElem_cons_zero, List.setIfInBounds_toArray, List.set_cons_zero, List.set_cons_succ]
                          refine wpAnyH_take (i := 4) (v := ?_) rfl (by kernel_rfl) (by kernel_rfl) (by kernel_rfl) (fun _ _ _ h => h) (Or.inl ⟨by rfl, ?_⟩) (by assumption) ?_
                          rotate_left
                          · intro w9 hS9
                            try dsimp only at hS9
                            go_split_ands
                            go_simp
                            try with_reducible rfl
                          try simp only [Act.put, List.getElem_toArray, List.getElem_cons_succ, List.getElem_cons_zero, List.setIfInBounds_toArray, List.set_cons_zero, List.set_cons_succ]
                          refine wpAnyH_take (i := 5) (v := ?_) rfl (by kernel_rfl) (by kernel_rfl) (by kernel_rfl) (fun _ _ _ h => h) (Or.inl ⟨by rfl, ?_⟩) (by assumption) ?_
                          rotate_left
                          · intro w9 hS9
                            try dsimp only at hS9
                            go_split_ands
                            go_simp
                            try with_reducible rfl
                          try simp only [Act.put, List.getElem_toArray, List.getElem_cons_succ, List.getElem_cons_zero, List.setIfInBounds_toArray, List.set_cons_zero, List.set_cons_succ]
                          refine wpAnyH_take (i := 6) (v := ?_) rfl (by kernel_rfl) (by kernel_rfl) (by kernel_rfl) (fun _ _ _ h => h) (Or.inl ⟨by rfl, ?_⟩) (by assumption) ?_
                          rotate_left
                          · intro w9 hS9
                            try dsimp only at hS9
                            go_split_ands
                            go_simp
                            try with_reducible rfl
                          try simp only [Act.put, List.getElem_toArray, List.getElem_cons_succ, List.getElem_cons_zero, List.setIfInBounds_toArray, List.set_cons_zero, List.set_cons_succ]
                          refine wpAnyH_take (i := 7) (v := ?_) rfl (by kernel_rfl) (by kernel_rfl) (by kernel_rfl) (fun _ _ _ h => h) (Or.inl ⟨by rfl, ?_⟩) (by assumption) ?_
                          rotate_left
                          · intro w9 hS9
                            try dsimp only at hS9
                            go_split_ands
                            go_simp
                            try with_reducible rfl
                          try simp only [Act.put, List.getElem_toArray, List.getElem_cons_succ, List.getElem_cons_zero, List.setIfInBounds_toArray, List.set_cons_zero, List.set_cons_succ]
                          refine wpAnyH_take (i := 8) (v := ?_) rfl (by kernel_rfl) (by kernel_rfl) (by kernel_rfl) (fun _ _ _ h => h) (Or.inl ⟨by rfl, ?_⟩) (by assumption) ?_
                          rotate_left
                          · intro w9 hS9
                            try dsimp only at hS9
                            go_split_ands
                            go_simp
                            try with_reducible rfl
                          try simp only [Act.put, List.getElem_toArray, List.getElem_cons_succ, List.getElem_cons_zero, List.setIfInBounds_toArray, List.set_cons_zero, List.set_cons_succ]
                          refine wpAnyH_ready (rs := [9]) (by kernel_rfl) (by simp) ?_
                          refine AllReadyH.cons rfl (fun K hK => ?_) AllReadyH.nil
                          go_simp
                          refine (HIA.out _ HD.out).mono ?_
                          rintro e7 w7 ⟨⟨a7, c7, rfl, own7, hb7⟩, hf7⟩
                          have F7 : Frm [] W15 w7 := HD.out.trans hf7 (by simp)
                          refine hK.out _ _ ?_ (fun hHeld => ?_)
                          · exact KEEP.out _ F7
                          clear hK K
                          try simp only [Act.put, List.getElem_toArray, List.getElem_cons_succ, List.getElem_cons_zero, List.setIfInBounds_toArray, List.set_cons_zero, List.set_cons_succ]
                          refine wpAnyH_take (i := 10) (v := ?_) rfl (by kernel_rfl) (by kernel_rfl) (by kernel_rfl) (fun _ _ _ h => h) (Or.inl ⟨by rfl, ?_⟩) (by assumption) ?_
                          rotate_left
                          · intro w9 hS9
                            try dsimp only at hS9
                            go_split_ands
                            go_simp
                            try with_reducible rfl
                          try simp only [Act.put, List.getElem_toArray, List.getElem_cons_succ, List.getElem_cons_zero, List.setIfInBounds_toArray, List.set_cons_zero, List.set_cons_succ]
                          refine wpAnyH_take (i := 11) (v := ?_) rfl (by kernel_rfl) (by kernel_rfl) (by kernel_rfl) (fun _ _ _ h => h) (Or.inl ⟨by rfl, ?_⟩) (by assumption) ?_
                          rotate_left
                          · intro w9 hS9
                            try dsimp only at hS9
                            go_split_ands
                            go_simp
                            try with_reducible rfl
                          try simp only [Act.put, List.getElem_toArray, List.getElem_cons_succ, List.getElem_cons_zero, List.setIfInBounds_toArray, List.set_cons_zero, List.set_cons_succ]
                          refine wpAnyH_done (by kernel_rfl) ?_ _
                          refine Qt.last rfl rfl ?_
                          simp only [List.getElem_toArray, List.getElem_cons_succ, List.getElem_cons_zero]
                          obtain ⟨_, b7, y7, _, _⟩ := KEEP.out _ F7
                          go_simp
                          have HA := Lib.hid ((Sep.setRow (r' := insG ltAr nx (permE dn n p ev, t)) ((S15.out.nil HD.out).pull 2 rfl) HU.out (by decide) rfl own7 rfl rfl (hf7.mono (by simp)) hb7))
                          clear hf7 F7 b7 y7 own7 hb7 hHeld KEEP HD S15 HGC HGZ HBX HOWN HIA HB11
                          generalize w7.setCell ⟨go, k, none⟩ (.slice a7 (insG ltAr nx (permE dn n p ev, t)).length c7) = w8 at *
                          go_wp2_with fail
                          go_roundg (row.length - (j + 1))
                          case rel =>
                            refine ⟨j + 1, us.set k (.slice a7 (insG ltAr nx (permE dn n p ev, t)).length c7), a7, c7, insG ltAr nx (permE dn n p ev, t), rfl, by omega, by go_num, by rw [bigW_snoc HX.out, HBG3.out]; simpa using HLIM.out, fun i h1 h2 => ?_, by rw [permS_snoc HX.out, ← HNX.out]; rfl, List.getElem?_set_self (List.getElem?_eq_some_iff.1 HU.out).1, fun h => absurd h (insG_ne2 _ _), ?_⟩
                            · rw [List.getElem?_set_ne (by omega)]
                              exact HNF3.out i h1 h2
                            · have h9 := HA.out
                              simp only [List.eraseIdx_cons_zero, List.eraseIdx_cons_succ] at h9
                              rw [doneF_set hlt] at h9
                              have h8 := ((h9.pull 1 rfl).tail.pull 1 rfl)
                              exact h8
                          case measure => have := HQ3.out; omega
                        · have hpe : permE dn n p ev = ev := by rw [permE, if_neg hin]
                          have S15 : Hid (Sep w (wr.alloc (.cells #[.int .i64 ev, .int .i64 t] 55)) (boxC wr.heap.size 55 [.int .i64 (permE dn n p ev), .int .i64 t] :: _)) := Lib.hid (by rw [hpe]; exact SX.out)
                          have hor : (ev < 2) ∨ (2 ≤ ev ∧ ¬ ev < 2 + (dn : Int)) := by omega
                          clear hpe
                          rcases hor with x5 | ⟨x5, x6⟩
                          · have x5' : ¬ 2 ≤ ev := by omega
                            go_wp2_with fail
                            generalize hWW : wr.alloc (.cells #[.int .i64 ev, .int .i64 t] 55) = W15 at *
                            generalize wr.heap.size = xb at *
                            clear hWW SX S y1 y2 m3 m4 m5 m6 lb0 lb8 d7 k1
                            obtain ⟨u', hu, hown⟩ := (S15.out.at_ 2 rfl).2.2 k nx (doneF_at hlt)
                            obtain rfl : Value.slice ua nx.length uc = u' := by
                              rw [HUK.out] at hu
                              exact Option.some.inj hu
                            obtain ⟨gc, gz⟩ := ownsC_cell (S15.out.at_ 2 rfl) hu
                            have HGC := Lib.hid gc
                            have HGZ := Lib.hid gz
                            have HBX := Lib.hid (show RowAt W15 xb 55 [.int .i64 (permE dn n p ev), .int .i64 t] from S15.out.at_ 0 rfl)
                            have HB11 := Lib.hid (show RowAt W15 b11 25 [.slice (some ⟨go, 0, none⟩) l.length l.length] from S15.out.at_ 1 rfl)
                            have HOWN := Lib.hid hown
                            have HU := Lib.hid hu
                            clear gc gz hown hu
                            have KEEP : Hid (∀ (w' : World), Frm [] W15 w' → w'.cell? ⟨b11, 0, none⟩ = some (.slice (some ⟨go, 0, none⟩) l.length l.length) ∧ w'.cell? ⟨go, k, none⟩ = some (.slice ua nx.length uc) ∧ w'.frozen? ⟨go, k, none⟩ = false ∧ w'.cell? ⟨xb, 0, none⟩ = some (.int .i64 (permE dn n p ev)) ∧ w'.cell? ⟨xb, 1, none⟩ = some (.int .i64 t)) := Lib.hid fun w' hf => by
                              have hx := HBX.out.frm hf (by simp)
                              exact ⟨(HB11.out.frm hf (by simp)).cell (i := 0) rfl, hf.cell HGC.out (by simp), hf.frz HGC.out HGZ.out (by simp), hx.cell (i := 0) rfl, hx.cell (i := 1) rfl⟩
                            have HD : Hid (Frm [] W15 W15.drew) := Lib.hid (Frm.refl [] W15).drew
                            have HIA : Hid (∀ W', Frm [] W15 W' → Calls Tryz.prog 18 #[.slice ua nx.length uc, .agg #[.int .i64 (permE dn n p ev), .int .i64 t]] W' fun e w' => (∃ a' cp', e = .returned (.slice a' (insG ltAr nx (permE dn n p ev, t)).length cp') ∧ w'.ownsRow 0 55 2 (.slice a' (insG ltAr nx (permE dn n p ev, t)).length cp') (insG ltAr nx (permE dn n p ev, t)).length ((insG ltAr nx (permE dn n p ev, t)).flatMap arE) ∧ ∀ b, (Value.slice a' (insG ltAr nx (permE dn n p ev, t)).length cp').ownBlock = some b → (Value.slice ua nx.length uc).ownBlock = some b ∨ W'.heap.size ≤ b) ∧ Frm [] W' w') := Lib.hid fun W' hf => insA_any 0 ua uc nx (permE dn n p ev, t) W' (owns_frm HOWN.out hf (by simp)) HNLX.out (by have := HNXL.out; omega) (Nat.zero_le _)
                            go_wp2_with fail
                            refine' wp_region_last (L := 11) _ (fun w' => w'.cell? ⟨b11, 0, none⟩ = some (.slice (some ⟨go, 0, none⟩) l.length l.length) ∧ w'.cell? ⟨go, k, none⟩ = some (.slice ua nx.length uc) ∧ w'.frozen? ⟨go, k, none⟩ = false ∧ w'.cell? ⟨xb, 0, none⟩ = some (.int .i64 (permE dn n p ev)) ∧ w'.cell? ⟨xb, 1, none⟩ = some (.int .i64 t)) (by kernel_rfl) rfl rfl rfl rfl ?he (by kernel_rfl) (by kernel_rfl) ?hS ?h
                            case he =>
                              simp only [nopOf, List.getElem_toArray, List.getElem_cons_succ, List.getElem_cons_zero, List.setIfInBounds_toArray, List.set_cons_succ, List.set_cons_zero]
                              rfl
                            case hS => exact KEEP.out _ HD.out
                            intro hHeld
                            refine wpAnyH_take (i := 0) (v := ?_) rfl (by kernel_rfl) (by kernel_rfl) (by kernel_rfl) (fun _ _ _ h => h) (Or.inl ⟨by rfl, ?_⟩) (by assumption) ?_
                            rotate_left
                            · intro w9 hS9
                              try dsimp only at hS9
                              go_split_ands
                              go_simp
                              try with_reducible rfl
                            try simp only [Act.put, List.getElem_toArray, List.getElem_cons_succ, List.getElem_cons_zero, List.setIfInBounds_toArray, List.set_cons_zero, List.set_cons_succ]
                            refine wpAnyH_take (i := 1) (v := ?_) rfl (by kernel_rfl) (by kernel_rfl) (by kernel_rfl) (fun _ _ _ h => h) (Or.inl ⟨by rfl, ?_⟩) (by assumption) ?_
                            rotate_left
                            · intro w9 hS9
                              try dsimp only at hS9
                              go_split_ands
                              go_simp
                              try with_reducible rfl
                            try simp only [Act.put, List.getElem_toArray, List.getElem_cons_succ, List.getElem_cons_zero, List.setIfInBounds_toArray, List.set_cons_zero, List.set_cons_succ]
                            refine wpAnyH_take (i := 2) (v := ?_) rfl (by kernel_rfl) (by kernel_rfl) (by kernel_rfl) (fun _ _ _ h => h) (Or.inl ⟨by rfl, ?_⟩) (by assumption) ?_
                            rotate_left
                            · intro w9 hS9
                              try dsimp only at hS9
                              go_split_ands
                              go_simp
                              try with_reducible rfl
                            try simp only [Act.put, List.getElem_toArray, List.getElem_cons_succ, List.getElem_cons_zero, List.setIfInBounds_toArray, List.set_cons_zero, List.set_cons_succ]
                            refine wpAnyH_take (i := 3) (v := ?_) rfl (by kernel_rfl) (by kernel_rfl) (by kernel_rfl) (fun _ _ _ h => h) (Or.inl ⟨by rfl, ?_⟩) (by assumption) ?_
                            rotate_left
                            · intro w9 hS9
                              try dsimp only at hS9
                              go_split_ands
                              go_simp
                              try with_reducible rfl
                            try simp only [Act.put, List.getElem_toArray, List.getElem_cons_succ, List.getElem_cons_zero, List.setIfInBounds_toArray, List.set_cons_zero, List.set_cons_succ]
                            refine wpAnyH_take (i := 4) (v := ?_) rfl (by kernel_rfl) (by kernel_rfl) (by kernel_rfl) (fun _ _ _ h => h) (Or.inl ⟨by rfl, ?_⟩) (by assumption) ?_
                            rotate_left
                            · intro w9 hS9
                              try dsimp only at hS9
                              go_split_ands
                              go_simp
                              try with_reducible rfl
                            try simp only [Act.put, List.getElem_toArray, List.getElem_cons_succ, List.getElem_cons_zero, List.setIfInBounds_toArray, List.set_cons_zero, List.set_cons_succ]
                            refine wpAnyH_take (i := 5) (v := ?_) rfl (by kernel_rfl) (by kernel_rfl) (by kernel_rfl) (fun _ _ _ h => h) (Or.inl ⟨by rfl, ?_⟩) (by assumption) ?_
                            rotate_left
                            · intro w9 hS9
                              try dsimp only at hS9
                              go_split_ands
                              go_simp
                              try with_reducible rfl
                            try simp only [Act.put, List.getElem_toArray, List.getElem_cons_succ, List.getElem_cons_zero, List.setIfInBounds_toArray, List.set_cons_zero, List.set_cons_succ]
                            refine wpAnyH_take (i := 6) (v := ?_) rfl (by kernel_rfl) (by kernel_rfl) (by kernel_rfl) (fun _ _ _ h => h) (Or.inl ⟨by rfl, ?_⟩) (by assumption) ?_
                            rotate_left
                            · intro w9 hS9
                              try dsimp only at hS9
                              go_split_ands
                              go_simp
                              try with_reducible rfl
                            try simp only [Act.put, List.getElem_toArray, List.getElem_cons_succ, List.getElem_cons_zero, List.setIfInBounds_toArray, List.set_cons_zero, List.set_cons_succ]
                            refine wpAnyH_take (i := 7) (v := ?_) rfl (by kernel_rfl) (by kernel_rfl) (by kernel_rfl) (fun _ _ _ h => h) (Or.inl ⟨by rfl, ?_⟩) (by assumption) ?_
                            rotate_left
                            · intro w9 hS9
                              try dsimp only at hS9
                              go_split_ands
                              go_simp
                              try with_reducible rfl
                            try simp only [Act.put, List.getElem_toArray, List.getElem_cons_succ, List.getElem_cons_zero, List.setIfInBounds_toArray, List.set_cons_zero, List.set_cons_succ]
                            refine wpAnyH_take (i := 8) (v := ?_) rfl (by kernel_rfl) (by kernel_rfl) (by kernel_rfl) (fun _ _ _ h => h) (Or.inl ⟨by rfl, ?_⟩) (by assumption) ?_
                            rotate_left
                            · intro w9 hS9
                              try dsimp only at hS9
                              go_split_ands
                              go_simp
                              try with_reducible rfl
                            try simp only [Act.put, List.getElem_toArray, List.getElem_cons_succ, List.getElem_cons_zero, List.setIfInBounds_toArray, List.set_cons_zero, List.set_cons_succ]
                            refine wpAnyH_ready (rs := [9]) (by kernel_rfl) (by simp) ?_
                            refine AllReadyH.cons rfl (fun K hK => ?_) AllReadyH.nil
                            go_simp
                            refine (HIA.out _ HD.out).mono ?_
                            rintro e7 w7 ⟨⟨a7, c7, rfl, own7, hb7⟩, hf7⟩
                            have F7 : Frm [] W15 w7 := HD.out.trans hf7 (by simp)
                            refine hK.out _ _ ?_ (fun hHeld => ?_)
                            · exact KEEP.out _ F7
                            clear hK K
                            try simp only [Act.put, List.getElem_toArray, List.getElem_cons_succ, List.getElem_cons_zero, List.setIfInBounds_toArray, List.set_cons_zero, List.set_cons_succ]
                            refine wpAnyH_take (i := 10) (v := ?_) rfl (by kernel_rfl) (by kernel_rfl) (by kernel_rfl) (fun _ _ _ h => h) (Or.inl ⟨by rfl, ?_⟩) (by assumption) ?_
                            rotate_left
                            · intro w9 hS9
                              try dsimp only at hS9
                              go_split_ands
                              go_simp
                              try with_reducible rfl
                            try simp only [Act.put, List.getElem_toArray, List.getElem_cons_succ, List.getElem_cons_zero, List.setIfInBounds_toArray, List.set_cons_zero, List.set_cons_succ]
                            refine wpAnyH_take (i := 11) (v := ?_) rfl (by kernel_rfl) (by kernel_rfl) (by kernel_rfl) (fun _ _ _ h => h) (Or.inl ⟨by rfl, ?_⟩) (by assumption) ?_
                            rotate_left
                            · intro w9 hS9
                              try dsimp only at hS9
                              go_split_ands
                              go_simp
                              try with_reducible rfl
                            try simp only [Act.put, List.getElem_toArray, List.getElem_cons_succ, List.getElem_cons_zero, List.setIfInBounds_toArray, List.set_cons_zero, List.set_cons_succ]
                            refine wpAnyH_done (by kernel_rfl) ?_ _
                            refine Qt.last rfl rfl ?_
                            simp only [List.getElem_toArray, List.getElem_cons_succ, List.getElem_cons_zero]
                            obtain ⟨_, b7, y7, _, _⟩ := KEEP.out _ F7
                            go_simp
                            have HA := Lib.hid ((Sep.setRow (r' := insG ltAr nx (permE dn n p ev, t)) ((S15.out.nil HD.out).pull 2 rfl) HU.out (by decide) rfl own7 rfl rfl (hf7.mono (by simp)) hb7))
                            clear hf7 F7 b7 y7 own7 hb7 hHeld KEEP HD S15 HGC HGZ HBX HOWN HIA HB11
                            generalize w7.setCell ⟨go, k, none⟩ (.slice a7 (insG ltAr nx (permE dn n p ev, t)).length c7) = w8 at *
                            go_wp2_with fail
                            go_roundg (row.length - (j + 1))
                            case rel =>
                              refine ⟨j + 1, us.set k (.slice a7 (insG ltAr nx (permE dn n p ev, t)).length c7), a7, c7, insG ltAr nx (permE dn n p ev, t), rfl, by omega, by go_num, by rw [bigW_snoc HX.out, HBG3.out]; simpa using HLIM.out, fun i h1 h2 => ?_, by rw [permS_snoc HX.out, ← HNX.out]; rfl, List.getElem?_set_self (List.getElem?_eq_some_iff.1 HU.out).1, fun h => absurd h (insG_ne2 _ _), ?_⟩
                              · rw [List.getElem?_set_ne (by omega)]
                                exact HNF3.out i h1 h2
                              · have h9 := HA.out
                                simp only [List.eraseIdx_cons_zero, List.eraseIdx_cons_succ] at h9
                                rw [doneF_set hlt] at h9
                                have h8 := ((h9.pull 1 rfl).tail.pull 1 rfl)
                                exact h8
                            case measure => have := HQ3.out; omega
                          · go_wp2_with fail
                            generalize hWW : wr.alloc (.cells #[.int .i64 ev, .int .i64 t] 55) = W15 at *
                            generalize wr.heap.size = xb at *
                            clear hWW SX S y1 y2 m3 m4 m5 m6 lb0 lb8 d7 k1
                            obtain ⟨u', hu, hown⟩ := (S15.out.at_ 2 rfl).2.2 k nx (doneF_at hlt)
                            obtain rfl : Value.slice ua nx.length uc = u' := by
                              rw [HUK.out] at hu
                              exact Option.some.inj hu
                            obtain ⟨gc, gz⟩ := ownsC_cell (S15.out.at_ 2 rfl) hu
                            have HGC := Lib.hid gc
                            have HGZ := Lib.hid gz
                            have HBX := Lib.hid (show RowAt W15 xb 55 [.int .i64 (permE dn n p ev), .int .i64 t] from S15.out.at_ 0 rfl)
                            have HB11 := Lib.hid (show RowAt W15 b11 25 [.slice (some ⟨go, 0, none⟩) l.length l.length] from S15.out.at_ 1 rfl)
                            have HOWN := Lib.hid hown
                            have HU := Lib.hid hu
                            clear gc gz hown hu
                            have KEEP : Hid (∀ (w' : World), Frm [] W15 w' → w'.cell? ⟨b11, 0, none⟩ = some (.slice (some ⟨go, 0, none⟩) l.length l.length) ∧ w'.cell? ⟨go, k, none⟩ = some (.slice ua nx.length uc) ∧ w'.frozen? ⟨go, k, none⟩ = false ∧ w'.cell? ⟨xb, 0, none⟩ = some (.int .i64 (permE dn n p ev)) ∧ w'.cell? ⟨xb, 1, none⟩ = some (.int .i64 t)) := Lib.hid fun w' hf => by
                              have hx := HBX.out.frm hf (by simp)
                              exact ⟨(HB11.out.frm hf (by simp)).cell (i := 0) rfl, hf.cell HGC.out (by simp), hf.frz HGC.out HGZ.out (by simp), hx.cell (i := 0) rfl, hx.cell (i := 1) rfl⟩
                            have HD : Hid (Frm [] W15 W15.drew) := Lib.hid (Frm.refl [] W15).drew
                            have HIA : Hid (∀ W', Frm [] W15 W' → Calls Tryz.prog 18 #[.slice ua nx.length uc, .agg #[.int .i64 (permE dn n p ev), .int .i64 t]] W' fun e w' => (∃ a' cp', e = .returned (.slice a' (insG ltAr nx (permE dn n p ev, t)).length cp') ∧ w'.ownsRow 0 55 2 (.slice a' (insG ltAr nx (permE dn n p ev, t)).length cp') (insG ltAr nx (permE dn n p ev, t)).length ((insG ltAr nx (permE dn n p ev, t)).flatMap arE) ∧ ∀ b, (Value.slice a' (insG ltAr nx (permE dn n p ev, t)).length cp').ownBlock = some b → (Value.slice ua nx.length uc).ownBlock = some b ∨ W'.heap.size ≤ b) ∧ Frm [] W' w') := Lib.hid fun W' hf => insA_any 0 ua uc nx (permE dn n p ev, t) W' (owns_frm HOWN.out hf (by simp)) HNLX.out (by have := HNXL.out; omega) (Nat.zero_le _)
                            go_wp2_with fail
                            refine' wp_region_last (L := 11) _ (fun w' => w'.cell? ⟨b11, 0, none⟩ = some (.slice (some ⟨go, 0, none⟩) l.length l.length) ∧ w'.cell? ⟨go, k, none⟩ = some (.slice ua nx.length uc) ∧ w'.frozen? ⟨go, k, none⟩ = false ∧ w'.cell? ⟨xb, 0, none⟩ = some (.int .i64 (permE dn n p ev)) ∧ w'.cell? ⟨xb, 1, none⟩ = some (.int .i64 t)) (by kernel_rfl) rfl rfl rfl rfl ?he (by kernel_rfl) (by kernel_rfl) ?hS ?h
                            case he =>
                              simp only [nopOf, List.getElem_toArray, List.getElem_cons_succ, List.getElem_cons_zero, List.setIfInBounds_toArray, List.set_cons_succ, List.set_cons_zero]
                              rfl
                            case hS => exact KEEP.out _ HD.out
                            intro hHeld
                            refine wpAnyH_take (i := 0) (v := ?_) rfl (by kernel_rfl) (by kernel_rfl) (by kernel_rfl) (fun _ _ _ h => h) (Or.inl ⟨by rfl, ?_⟩) (by assumption) ?_
                            rotate_left
                            · intro w9 hS9
                              try dsimp only at hS9
                              go_split_ands
                              go_simp
                              try with_reducible rfl
                            try simp only [Act.put, List.getElem_toArray, List.getElem_cons_succ, List.getElem_cons_zero, List.setIfInBounds_toArray, List.set_cons_zero, List.set_cons_succ]
                            refine wpAnyH_take (i := 1) (v := ?_) rfl (by kernel_rfl) (by kernel_rfl) (by kernel_rfl) (fun _ _ _ h => h) (Or.inl ⟨by rfl, ?_⟩) (by assumption) ?_
                            rotate_left
                            · intro w9 hS9
                              try dsimp only at hS9
                              go_split_ands
                              go_simp
                              try with_reducible rfl
                            try simp only [Act.put, List.getElem_toArray, List.getElem_cons_succ, List.getElem_cons_zero, List.setIfInBounds_toArray, List.set_cons_zero, List.set_cons_succ]
                            refine wpAnyH_take (i := 2) (v := ?_) rfl (by kernel_rfl) (by kernel_rfl) (by kernel_rfl) (fun _ _ _ h => h) (Or.inl ⟨by rfl, ?_⟩) (by assumption) ?_
                            rotate_left
                            · intro w9 hS9
                              try dsimp only at hS9
                              go_split_ands
                              go_simp
                              try with_reducible rfl
                            try simp only [Act.put, List.getElem_toArray, List.getElem_cons_succ, List.getElem_cons_zero, List.setIfInBounds_toArray, List.set_cons_zero, List.set_cons_succ]
                            refine wpAnyH_take (i := 3) (v := ?_) rfl (by kernel_rfl) (by kernel_rfl) (by kernel_rfl) (fun _ _ _ h => h) (Or.inl ⟨by rfl, ?_⟩) (by assumption) ?_
                            rotate_left
                            · intro w9 hS9
                              try dsimp only at hS9
                              go_split_ands
                              go_simp
                              try with_reducible rfl
                            try simp only [Act.put, List.getElem_toArray, List.getElem_cons_succ, List.getElem_cons_zero, List.setIfInBounds_toArray, List.set_cons_zero, List.set_cons_succ]
                            refine wpAnyH_take (i := 4) (v := ?_) rfl (by kernel_rfl) (by kernel_rfl) (by kernel_rfl) (fun _ _ _ h => h) (Or.inl ⟨by rfl, ?_⟩) (by assumption) ?_
                            rotate_left
                            · intro w9 hS9
                              try dsimp only at hS9
                              go_split_ands
                              go_simp
                              try with_reducible rfl
                            try simp only [Act.put, List.getElem_toArray, List.getElem_cons_succ, List.getElem_cons_zero, List.setIfInBounds_toArray, List.set_cons_zero, List.set_cons_succ]
                            refine wpAnyH_take (i := 5) (v := ?_) rfl (by kernel_rfl) (by kernel_rfl) (by kernel_rfl) (fun _ _ _ h => h) (Or.inl ⟨by rfl, ?_⟩) (by assumption) ?_
                            rotate_left
                            · intro w9 hS9
                              try dsimp only at hS9
                              go_split_ands
                              go_simp
                              try with_reducible rfl
                            try simp only [Act.put, List.getElem_toArray, List.getElem_cons_succ, List.getElem_cons_zero, List.setIfInBounds_toArray, List.set_cons_zero, List.set_cons_succ]
                            refine wpAnyH_take (i := 6) (v := ?_) rfl (by kernel_rfl) (by kernel_rfl) (by kernel_rfl) (fun _ _ _ h => h) (Or.inl ⟨by rfl, ?_⟩) (by assumption) ?_
                            rotate_left
                            · intro w9 hS9
                              try dsimp only at hS9
                              go_split_ands
                              go_simp
                              try with_reducible rfl
                            try simp only [Act.put, List.getElem_toArray, List.getElem_cons_succ, List.getElem_cons_zero, List.setIfInBounds_toArray, List.set_cons_zero, List.set_cons_succ]
                            refine wpAnyH_take (i := 7) (v := ?_) rfl (by kernel_rfl) (by kernel_rfl) (by kernel_rfl) (fun _ _ _ h => h) (Or.inl ⟨by rfl, ?_⟩) (by assumption) ?_
                            rotate_left
                            · intro w9 hS9
                              try dsimp only at hS9
                              go_split_ands
                              go_simp
                              try with_reducible rfl
                            try simp only [Act.put, List.getElem_toArray, List.getElem_cons_succ, List.getElem_cons_zero, List.setIfInBounds_toArray, List.set_cons_zero, List.set_cons_succ]
                            refine wpAnyH_take (i := 8) (v := ?_) rfl (by kernel_rfl) (by kernel_rfl) (by kernel_rfl) (fun _ _ _ h => h) (Or.inl ⟨by rfl, ?_⟩) (by assumption) ?_
                            rotate_left
                            · intro w9 hS9
                              try dsimp only at hS9
                              go_split_ands
                              go_simp
                              try with_reducible rfl
                            try simp only [Act.put, List.getElem_toArray, List.getElem_cons_succ, List.getElem_cons_zero, List.setIfInBounds_toArray, List.set_cons_zero, List.set_cons_succ]
                            refine wpAnyH_ready (rs := [9]) (by kernel_rfl) (by simp) ?_
                            refine AllReadyH.cons rfl (fun K hK => ?_) AllReadyH.nil
                            go_simp
                            refine (HIA.out _ HD.out).mono ?_
                            rintro e7 w7 ⟨⟨a7, c7, rfl, own7, hb7⟩, hf7⟩
                            have F7 : Frm [] W15 w7 := HD.out.trans hf7 (by simp)
                            refine hK.out _ _ ?_ (fun hHeld => ?_)
                            · exact KEEP.out _ F7
                            clear hK K
                            try simp only [Act.put, List.getElem_toArray, List.getElem_cons_succ, List.getElem_cons_zero, List.setIfInBounds_toArray, List.set_cons_zero, List.set_cons_succ]
                            refine wpAnyH_take (i := 10) (v := ?_) rfl (by kernel_rfl) (by kernel_rfl) (by kernel_rfl) (fun _ _ _ h => h) (Or.inl ⟨by rfl, ?_⟩) (by assumption) ?_
                            rotate_left
                            · intro w9 hS9
                              try dsimp only at hS9
                              go_split_ands
                              go_simp
                              try with_reducible rfl
                            try simp only [Act.put, List.getElem_toArray, List.getElem_cons_succ, List.getElem_cons_zero, List.setIfInBounds_toArray, List.set_cons_zero, List.set_cons_succ]
                            refine wpAnyH_take (i := 11) (v := ?_) rfl (by kernel_rfl) (by kernel_rfl) (by kernel_rfl) (fun _ _ _ h => h) (Or.inl ⟨by rfl, ?_⟩) (by assumption) ?_
                            rotate_left
                            · intro w9 hS9
                              try dsimp only at hS9
                              go_split_ands
                              go_simp
                              try with_reducible rfl
                            try simp only [Act.put, List.getElem_toArray, List.getElem_cons_succ, List.getElem_cons_zero, List.setIfInBounds_toArray, List.set_cons_zero, List.set_cons_succ]
                            refine wpAnyH_done (by kernel_rfl) ?_ _
                            refine Qt.last rfl rfl ?_
                            simp only [List.getElem_toArray, List.getElem_cons_succ, List.getElem_cons_zero]
                            obtain ⟨_, b7, y7, _, _⟩ := KEEP.out _ F7
                            go_simp
                            have HA := Lib.hid ((Sep.setRow (r' := insG ltAr nx (permE dn n p ev, t)) ((S15.out.nil HD.out).pull 2 rfl) HU.out (by decide) rfl own7 rfl rfl (hf7.mono (by simp)) hb7))
                            clear hf7 F7 b7 y7 own7 hb7 hHeld KEEP HD S15 HGC HGZ HBX HOWN HIA HB11
                            generalize w7.setCell ⟨go, k, none⟩ (.slice a7 (insG ltAr nx (permE dn n p ev, t)).length c7) = w8 at *
                            go_wp2_with fail
                            go_roundg (row.length - (j + 1))
                            case rel =>
                              refine ⟨j + 1, us.set k (.slice a7 (insG ltAr nx (permE dn n p ev, t)).length c7), a7, c7, insG ltAr nx (permE dn n p ev, t), rfl, by omega, by go_num, by rw [bigW_snoc HX.out, HBG3.out]; simpa using HLIM.out, fun i h1 h2 => ?_, by rw [permS_snoc HX.out, ← HNX.out]; rfl, List.getElem?_set_self (List.getElem?_eq_some_iff.1 HU.out).1, fun h => absurd h (insG_ne2 _ _), ?_⟩
                              · rw [List.getElem?_set_ne (by omega)]
                                exact HNF3.out i h1 h2
                              · have h9 := HA.out
                                simp only [List.eraseIdx_cons_zero, List.eraseIdx_cons_succ] at h9
                                rw [doneF_set hlt] at h9
                                have h8 := ((h9.pull 1 rfl).tail.pull 1 rfl)
                                exact h8
                            case measure => have := HQ3.out; omega
                    · have i12 : ¬ (j : Int) < (row.length : Int) := by omega
                      have hjr : j = row.length := by omega
                      have hsS := S.out
                      have hb3 := HBG3.out
                      have hnx := HNX.out
                      rw [hjr, List.take_length] at hb3 hnx
                      rw [hnx, doneF_shut HROW.out] at hsS
                      have S6 := Lib.hid hsS
                      have HB3 := Lib.hid hb3
                      clear hsS hb3 hjr S hj hnx
                      go_wp2_with fail
                      go_roundg (l.length - (k + 1))
                      case rel => exact ⟨k + 1, us, rfl, by omega, by go_num, by rw [big_snoc HROW.out, HBG.out, HB3.out]; rfl, HNF3.out, S6.out⟩
                      case measure => have := HQ.out; omega
                · have i5 : ¬ (k : Int) < (l.length : Int) := by omega
                  have hkl : k = l.length := by omega
                  have hsS := S.out
                  have hb3 := HBG.out
                  rw [hkl, List.take_length] at hb3
                  rw [hkl, doneF_all] at hsS
                  have S9 := Lib.hid hsS
                  have HB3 := Lib.hid hb3
                  have hlat : LAt wr.heap.size wr (some ⟨go, 0, none⟩) l.length (l.map (permS dn n p)) := outC_lat (by rw [List.length_map]) (S9.out.at_ 1 rfl) (by rw [List.length_map]; omega) (fun r hr => by
                    obtain ⟨r0, hr0, rfl⟩ := List.mem_map.1 hr
                    have := HROWS.out r0 hr0
                    have h8 : (setG ltAr (permW dn n p r0)).length ≤ (permW dn n p r0).length := setG_le ltAr _
                    rw [permW, List.length_map] at h8
                    rw [permS, permW]
                    omega)
                  have hcan := refCanonical_any _ _ _ wr hlat (by rw [permS_map]; exact set_loose (perm_loose h12 h1 hdn96 HPP.out HLO.out))
                  rw [List.length_map] at hcan
                  have HCAN := Lib.hid hcan
                  have d8 := (show RowAt wr b11 25 [.slice (some ⟨go, 0, none⟩) l.length l.length] from S9.out.at_ 0 rfl).cell (i := 0) rfl
                  have HCE : Hid (canB (l.map (permS dn n p)) = canB (l.map (permW dn n p))) := Lib.hid (by rw [permS_map, canB_set])
                  clear hlat hcan hsS hb3 hkl S
                  go_wp2_with (first
                    | (go_at_call 27; refine HCAN.out.mono ?_; rintro e9 w9 ⟨ov, oldv, us9, rfl, hs10⟩; have S11 := Lib.hid (S9.out.append hs10); obtain ⟨oa, oc, rfl⟩ := ownC_shape (S11.out.at_ 0 rfl); obtain ⟨va, vc, rfl, _⟩ := owns_shape (S11.out.at_ 1 rfl).1; have d0 := (show RowAt w9 (w.heap.size + 1 + 1) 25 [.slice none 0 0] from S11.out.at_ 4 rfl).cell (i := 0) rfl; have d1 := (show RowAt w9 (w.heap.size + 1 + 1) 25 [.slice none 0 0] from S11.out.at_ 4 rfl).frozen 0; have d2 := S11.out.lt 4 rfl (k := w.heap.size + 1 + 1) (by simp [boxC]); clear hs10)
                    | fail)
                  have SF := (S11.out.putBox 4 rfl 0 (.slice va (canB (l.map (permS dn n p))).out.length vc)).nil ((Frm.refl [] _).alloc (.cells #[.slice va (canB (l.map (permS dn n p))).out.length vc] 25))
                  have hcs := (show RowAt _ (w.heap.size + 1 + 1) 25 [.slice va (canB (l.map (permS dn n p))).out.length vc] from SF.at_ 4 rfl).cell (i := 0) rfl
                  refine bodyPost_ret (v := .tuple #[.agg #[.slice va (canB (l.map (permS dn n p))).out.length vc], .int .i64 0]) (by simp [results, Tryz.results10, go_sem, hcs]) rfl ?_
                  have hlts := outC_lts (SF.at_ 1 rfl)
                  have hfr := SF.frm
                  rw [HCE.out] at hlts hfr ⊢
                  exact HGOOD.out HB3.out _ _ hlts hfr
      · have z1 : (v0 != 0) = true := by simpa using hz0
        clear hlv
        have HB := Lib.hid (HBAD.out (fun h9 => by have h8 := h9.2.1.2.1; rw [HV0.out] at h8; exact hz0 (by simpa using h8)))
        unfold machV
        go_enter Tryz.func10, Tryz.ntmps10
        go_wp2_with (first
          | (go_at_call 24; refine (HV.out _ S0.out.frm).mono ?_; rintro e9 wz ⟨rfl, hf9⟩; have SZ := Lib.hid (S0.out.nil hf9); have d0 := (show RowAt wz (w.heap.size + 1 + 1) 25 [.slice none 0 0] from SZ.out.at_ 0 rfl).cell (i := 0) rfl; have d1 := (show RowAt wz (w.heap.size + 1 + 1) 25 [.slice none 0 0] from SZ.out.at_ 0 rfl).frozen 0; have d2 := (show RowAt wz (w.heap.size + 1) 25 [.slice a l.length cap] from SZ.out.at_ 1 rfl).cell (i := 0) rfl; have p0 := SZ.out.frm.cell HPC.out (by simp); clear hf9)
          | fail)
        have c1 := (show RowAt wz (w.heap.size + 1 + 1) 25 [.slice none 0 0] from SZ.out.at_ 0 rfl).cell (i := 0) rfl
        have hcs := World.cell?_setCell_same' wz ⟨w.heap.size + 1 + 1, 0, none⟩ (.slice none 0 0) (by rw [c1]; rfl)
        refine bodyPost_ret (v := .tuple #[.agg #[.slice none 0 0], .int .i64 1]) (by simp [results, Tryz.results10, go_sem, hcs]) rfl ?_
        exact HB.out _ (SZ.out.putBox 0 rfl 0 (.slice none 0 0)).frm
    · have n1 : ((p.length : Int) != (n : Int)) = true := by simp; omega
      have n2 : ¬ (p.length : Int) = (n : Int) := by omega
      clear hlv
      have HB := Lib.hid (HBAD.out (fun h9 => by exact hpn h9.2.1.1))
      unfold machV
      go_enter Tryz.func10, Tryz.ntmps10
      go_wp2_with (first
        | (go_at_call 24; refine (HV.out _ S0.out.frm).mono ?_; rintro e9 wz ⟨rfl, hf9⟩; have SZ := Lib.hid (S0.out.nil hf9); have d0 := (show RowAt wz (w.heap.size + 1 + 1) 25 [.slice none 0 0] from SZ.out.at_ 0 rfl).cell (i := 0) rfl; have d1 := (show RowAt wz (w.heap.size + 1 + 1) 25 [.slice none 0 0] from SZ.out.at_ 0 rfl).frozen 0; have d2 := (show RowAt wz (w.heap.size + 1) 25 [.slice a l.length cap] from SZ.out.at_ 1 rfl).cell (i := 0) rfl; clear hf9)
        | fail)
      have c1 := (show RowAt wz (w.heap.size + 1 + 1) 25 [.slice none 0 0] from SZ.out.at_ 0 rfl).cell (i := 0) rfl
      have hcs := World.cell?_setCell_same' wz ⟨w.heap.size + 1 + 1, 0, none⟩ (.slice none 0 0) (by rw [c1]; rfl)
      refine bodyPost_ret (v := .tuple #[.agg #[.slice none 0 0], .int .i64 1]) (by simp [results, Tryz.results10, go_sem, hcs]) rfl ?_
      exact HB.out _ (SZ.out.putBox 0 rfl 0 (.slice none 0 0)).frm
end Go.Proofs.YtdknbgejhhoaiaaGreat.Ind
