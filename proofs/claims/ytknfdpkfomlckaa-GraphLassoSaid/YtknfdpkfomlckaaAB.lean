/- Merged text: Y1, Y2 of the notes. -/
import Derived.Test.YtknfdpkfomlckaaAA
/- Contract of graph.looping. -/
namespace Go.Proofs.Ytknfdpkfomlckaa
open Go.RowKit

theorem infoBool : (Try.prog.info? 4).map (fun i => (i.zero, i.size, i.bytes)) = some (some (.bool false), 1, 1) := by kernel_rfl
def bools (bs : List Bool) : List Value := bs.map Value.bool
theorem bools_get {bs : List Bool} {i : Nat} {b : Bool} (h : bs[i]? = some b) : (bools bs)[i]? = some (.bool b) := by simp [bools, h]
theorem bools_set (bs : List Bool) (i : Nat) (b : Bool) : bools (bs.set i b) = (bools bs).set i (.bool b) := by simp [bools, List.map_set]

theorem wpl_make_b (w : World) {ops : Array Oper} {rest : List Oper} {o : Oper} {a : Act} {Q : Exit → Act → World → Prop}
    (hg : o.guard = none) (l : Operand) (hop : o.op = Op.makeSlice 38 l l) (L : Int) (n : Nat) (hl : a.eval l = .int .i64 L) (hL : L = (n : Int)) (hn : n ≤ 1000000)
    (hK : ∀ w', w'.ownsRow w.heap.size 4 1 (.slice (some ⟨w.heap.size, 0, none⟩) n n) n (bools (List.replicate n false)) → Frm [] w w' → wpList Try.prog ops Q rest (a.put o.dst (.slice (some ⟨w.heap.size, 0, none⟩) n n)) w') :
    wpList Try.prog ops Q (o :: rest) a w := by
  obtain ⟨i0, hi, hz0, hz1, hz2⟩ := info_parts infoBool
  refine wpList_make_full w hg l l 38 hop w.heap.size 4 i0 (.bool false) 1 Try.underlying38 hi hz0 hz1 .i64 .i64 L L n hl hl hL hL (by rw [hz2]; omega) (by unfold maxLen; omega) (Nat.le_refl _) ?_
  intro w' hown hgr
  refine hK w' ?_ ((Frm.refl [] w).grown hgr (by simp))
  have hm : (madeCells (Value.bool false).cells (n * 1)).toList = bools (List.replicate n false) := by
    rw [Nat.mul_one]
    exact (toList_madeCells_one _ _).trans (by simp [bools])
  rw [hm] at hown
  exact hown

/-- Entries below k are settled, entry k is b. -/
def bsAt (n : Nat) (f : Nat → Bool) (k : Nat) (b : Bool) : List Bool := (List.range n).map fun i => if i < k then f i else if i = k then b else false
theorem bsAt_get (n : Nat) (f : Nat → Bool) (k : Nat) (b : Bool) (i : Nat) (hi : i < n) : (bsAt n f k b)[i]? = some (if i < k then f i else if i = k then b else false) := by
  simp [bsAt, hi]
theorem bsAt_len (n : Nat) (f : Nat → Bool) (k : Nat) (b : Bool) : (bsAt n f k b).length = n := by simp [bsAt]
theorem bsAt_zero (n : Nat) (f : Nat → Bool) : bsAt n f 0 false = List.replicate n false := by
  refine List.ext_getElem? (fun i => ?_)
  by_cases hi : i < n
  · rw [bsAt_get _ _ _ _ _ hi, List.getElem?_replicate, if_pos hi]; simp
  · rw [List.getElem?_eq_none (by rw [bsAt_len]; omega), List.getElem?_eq_none (by simp; omega)]
theorem bsAt_set (n : Nat) (f : Nat → Bool) (k : Nat) (b c : Bool) : (bsAt n f k b).set k c = bsAt n f k c := by
  refine List.ext_getElem? (fun i => ?_)
  by_cases hi : i < n
  · rw [List.getElem?_set, bsAt_get _ _ _ _ _ hi, bsAt_get _ _ _ _ _ hi, bsAt_len]
    by_cases h1 : k = i
    · subst h1; simp [hi]
    · rw [if_neg h1]
      have : ¬ i = k := fun e => h1 e.symm
      simp [this]
  · rw [List.getElem?_eq_none (by rw [List.length_set, bsAt_len]; omega), List.getElem?_eq_none (by rw [bsAt_len]; omega)]
theorem bsAt_next (n : Nat) (f : Nat → Bool) (k : Nat) : bsAt n f k (f k) = bsAt n f (k + 1) false := by
  refine List.ext_getElem? (fun i => ?_)
  by_cases hi : i < n
  · rw [bsAt_get _ _ _ _ _ hi, bsAt_get _ _ _ _ _ hi]
    by_cases h1 : i < k
    · rw [if_pos h1, if_pos (by omega)]
    · by_cases h2 : i = k
      · subst h2; simp
      · rw [if_neg h1, if_neg h2, if_neg (by omega)]; simp
  · rw [List.getElem?_eq_none (by rw [bsAt_len]; omega), List.getElem?_eq_none (by rw [bsAt_len]; omega)]
theorem bsAt_end (n : Nat) (f : Nat → Bool) (b : Bool) : bsAt n f n b = (List.range n).map f := by
  refine List.map_congr_left (fun i hi => ?_)
  rw [if_pos (List.mem_range.1 hi)]

theorem own_rowg2 {B : Nat} {w : World} {e size g n cap : Nat} {xs : List Value} (h : w.ownsRow B e size (.slice (some ⟨g, 0, none⟩) n cap) n xs) : RowAt w g e xs := by
  rcases h.2 with ⟨h0, _⟩ | ⟨g', cp', cur, h0, hb, hg, h1, h2, h3, h4⟩
  · cases h0
  · obtain ⟨rfl, rfl⟩ : g = g' ∧ cap = cp' := by simpa using h0
    exact ⟨cur, hg, by have := h.1; rw [this]; exact h4⟩

/-- Does the state s lie on a silent cycle, by the components. -/
def loopF (E : Nat → List Nat) (comp : List Int) (s : Nat) : Bool := (E s).any fun t => decide (Tj.ix comp t = Tj.ix comp s)

set_option linter.unusedSimpArgs false in
set_option maxRecDepth 100000 in
set_option maxHeartbeats 2000000 in
theorem looping_any (B : Nat) (a : Option Addr) (cap : Nat) (l : Lts) (hv : VLts l) (ca : Option Addr) (cc : Nat) (comp : List Int) (w : World) (h0 : LAt B w a cap l) (hc0 : Rd B w ca l.length cc 1 (ints comp)) (hBw : B ≤ w.heap.size) :
    Calls Try.prog 49 #[.agg #[.slice a l.length cap], .slice ca l.length cc] w fun e w' => ∃ g, e = .returned (.slice (some ⟨g, 0, none⟩) l.length l.length) ∧ w'.ownsRow w.heap.size 4 1 (.slice (some ⟨g, 0, none⟩) l.length l.length) l.length (bools ((List.range l.length).map (loopF (Esel l true) comp))) ∧ Frm [] w w' := by
  have f0 : Frm [] w (w.alloc (.cells #[.slice a l.length cap] 25)) := (Frm.refl [] w).alloc _
  have hbox := box1 w (.slice a l.length cap) 25
  have hcl : comp.length = l.length := by have := hc0.len; rw [ints_len] at this; omega
  have HB := Lib.hid hbox
  have H0 := Lib.hid (h0.nil f0 rfl)
  have HC := Lib.hid (hc0.frm f0 (by simp))
  have HV := Lib.hid hv
  have HCL := Lib.hid hcl
  have hlt := h0.lt
  have hclt := hc0.lt
  have hfew := hv.few
  have i2 : (l.length : Int) ≤ 16384 := by omega
  clear h0 hc0 hv hbox hcl
  go_enter Try.func49, Try.ntmps49
  go_wp2_with (first | (at_make; refine wpl_make_b _ rfl (.tmp 11) rfl _ l.length rfl rfl (by omega) ?_) | (at_make; fail))
  intro w1 hown1 hf1
  rw [← bsAt_zero l.length (loopF (Esel l true) comp)] at hown1
  have HOWN1 := Lib.hid hown1
  have HF1 := Lib.hid hf1
  clear hown1
  have hbr1 := (HB.out.frm hf1 (by simp)).cell (i := 0) rfl
  clear hf1
  go_wp2_with fail
  go_loopg [16] l.length (fun q i wr => ∃ (k : Nat), q = l.length - k ∧ k ≤ l.length ∧ i = .int .i64 (k : Int) ∧ wr.ownsRow (w.heap.size + 1) 4 1 (.slice (some ⟨w.heap.size + 1, 0, none⟩) l.length l.length) l.length (bools (bsAt l.length (loopF (Esel l true) comp) k false)) ∧ Frm [w.heap.size + 1] w1 wr)
  case atStart => exact ⟨0, rfl, Nat.zero_le _, rfl, HOWN1.out, Frm.refl _ _⟩
  case round =>
    obtain ⟨k, rfl, hk, rfl, hown, hF⟩ := hrel
    have HOWN := Lib.hid hown
    have HF := Lib.hid hF
    have hFb := (HF1.out.mono (fq := [w.heap.size + 1]) (by simp)).trans hF (by simp)
    have HFB := Lib.hid hFb
    have i4 : (0 : Int) ≤ (k : Int) := by omega
    clear hown hF hFb hbr1
    by_cases hlt2 : k < l.length
    · have i5 : (k : Int) < (l.length : Int) := by omega
      obtain ⟨row, hrow⟩ : ∃ row, l[k]? = some row := ⟨_, List.getElem?_eq_getElem hlt2⟩
      have hbr := HFB.out.cell ((HB.out).cell (i := 0) rfl) (by simp)
      have harc := arcs_any B a cap l k row true wr (H0.out.frm HFB.out (by simp; omega)) hrow
      have hfewr := (HV.out.row row (List.mem_of_getElem? hrow)).few
      have hlen := sel_len row true
      obtain ⟨sr, hsr⟩ : ∃ sr, sel row true = sr := ⟨_, rfl⟩
      have HSEL := Lib.hid hsr
      have HROW := Lib.hid hrow
      rw [hsr] at harc hlen
      have HARC := Lib.hid harc
      have i6 : (sr.length : Int) ≤ 262144 := by omega
      obtain ⟨xk, hxk⟩ : ∃ xk, comp[k]? = some xk := ⟨_, List.getElem?_eq_getElem (by rw [HCL.out]; exact hlt2)⟩
      have hixk := Tj.ix_get hxk
      have HXK := Lib.hid hxk
      have HIXK := Lib.hid hixk
      clear harc hsr hrow hxk hixk
      go_wp2_with fail
      refine HARC.out.mono ?_
      rintro e3 w3 ⟨⟨ra, rc, rfl, hrr⟩, hf3⟩
      have HRR := Lib.hid hrr
      have HF3 := Lib.hid (HFB.out.trans hf3 (by simp))
      have HOWN3 := Lib.hid (own_frm_out HOWN.out hf3 (by simp))
      have HF13 := Lib.hid (HF.out.trans hf3 (by simp))
      clear hrr hf3 hbr
      go_wp2_with fail
      go_loopg [23] sr.length (fun q i wr => ∃ (j : Nat), q = sr.length - j ∧ j ≤ sr.length ∧ i = .int .i64 (j : Int) ∧ wr.ownsRow (w.heap.size + 1) 4 1 (.slice (some ⟨w.heap.size + 1, 0, none⟩) l.length l.length) l.length (bools (bsAt l.length (loopF (Esel l true) comp) k ((((Esel l true) k).take j).any fun t => decide (Tj.ix comp t = Tj.ix comp k)))) ∧ Frm [w.heap.size + 1] w3 wr)
      case atStart => exact ⟨0, rfl, Nat.zero_le _, rfl, by simpa using HOWN3.out, Frm.refl _ _⟩
      case round =>
        obtain ⟨j, rfl, hj, rfl, hown4, hF4⟩ := hrel
        have HOWN4 := Lib.hid hown4
        have HF4 := Lib.hid hF4
        have HFB4 := Lib.hid (HF3.out.trans hF4 (by simp))
        have i8 : (0 : Int) ≤ (j : Int) := by omega
        have hszr := (HF3.out.trans hF4 (by simp)).size
        simp only [World.alloc, Array.size_push] at hszr
        have hgl := (hown4.lt (w.heap.size + 1) rfl).2
        clear hown4 hF4
        by_cases hjl : j < sr.length
        · have i9 : (j : Int) < (sr.length : Int) := by omega
          obtain ⟨⟨e, t⟩, harc⟩ : ∃ y, sr[j]? = some y := ⟨_, List.getElem?_eq_getElem hjl⟩
          obtain ⟨m, rfl, hmn⟩ := sel_ok HV.out HROW.out (by rw [HSEL.out]; exact harc)
          have hEm : (Esel l true k)[j]? = some m := by
            have := esel_get HROW.out (silent := true) (j := j) (by rw [HSEL.out]; exact harc)
            simpa [Esel] using this
          obtain ⟨b1, o1, rfl, hb1, q1, q2⟩ := HRR.out.2.2.2 j e m harc
          have d1 := HF4.out.cell q1 (by simp; omega)
          have d2 := HF4.out.cell q2 (by simp; omega)
          obtain ⟨xm, hxm⟩ : ∃ xm, comp[m]? = some xm := ⟨_, List.getElem?_eq_getElem (by rw [HCL.out]; exact hmn)⟩
          have hixm := Tj.ix_get hxm
          obtain ⟨cb, co, hca, hcb, cm⟩ := (HC.out.frm HFB4.out (by simp; omega)).at hxm
          obtain ⟨cb', co', hca', _, ck⟩ := (HC.out.frm HFB4.out (by simp; omega)).at HXK.out
          rw [hca] at hca'
          obtain ⟨rfl, rfl⟩ : cb = cb' ∧ co = co' := by simpa using hca'
          subst hca
          have n1 := World.block_lt_of_cell? _ _ cm
          have n2 := World.block_lt_of_cell? _ _ d1
          simp only at n1 n2
          have i10 : (m : Int) < (l.length : Int) := by omega
          have i11 : (0 : Int) ≤ (m : Int) := by omega
          have htk : (Esel l true k).take (j + 1) = (Esel l true k).take j ++ [m] := by
            rw [List.take_add_one, hEm]; rfl
          have HTK := Lib.hid htk
          have HIXM := Lib.hid hixm
          clear harc hEm q1 q2 hxm hixm hca' htk
          by_cases hxx : xm = xk
          · subst hxx
            have hbb : (xm == xm) = true := by simp
            have zf := (own_rowg2 HOWN4.out).frozen k
            have cf := (own_rowg2 HOWN4.out).cell (bools_get (bsAt_get l.length (loopF (Esel l true) comp) k _ k hlt2))
            go_wp2_with fail
            go_quiet (fail)
            go_wp2_with fail
            go_roundg (sr.length - (j + 1))
            case rel =>
              refine ⟨j + 1, rfl, hjl, by go_num, ?_, ?_⟩
              · rw [HTK.out, List.any_append, List.any_cons, HIXM.out, HIXK.out]
                simp only [decide_true, Bool.true_or, Bool.or_true]
                have h9 := ownsB_setCell (owns_drewN (HOWN4.out.alloc (.cells #[.int .i64 e, .int .i64 (m : Int)] 51)) nq) (g := w.heap.size + 1) rfl k (.bool true)
                rw [← bools_set, bsAt_set] at h9
                exact h9
              · exact ((HF4.out.alloc (.cells #[.int .i64 e, .int .i64 (m : Int)] 51)).drewN nq).setCell (p := ⟨w.heap.size + 1, k, none⟩) (.inl (by simp)) _
            case measure => omega
          · have hbb : (xm == xk) = false := by simpa using hxx
            go_wp2_with fail
            go_quiet (fail)
            go_wp2_with fail
            go_roundg (sr.length - (j + 1))
            case rel =>
              refine ⟨j + 1, rfl, hjl, by go_num, ?_, (HF4.out.alloc (.cells #[.int .i64 e, .int .i64 (m : Int)] 51)).drewN nq⟩
              have h8 : decide (Tj.ix comp m = Tj.ix comp k) = false := by rw [HIXM.out, HIXK.out]; exact decide_eq_false hxx
              rw [HTK.out, List.any_append, List.any_cons, h8, List.any_nil, Bool.or_false, Bool.or_false]
              exact owns_drewN (HOWN4.out.alloc (.cells #[.int .i64 e, .int .i64 (m : Int)] 51)) nq
            case measure => omega
        · have hjn : j = sr.length := by omega
          subst hjn
          have i9 : ¬ (sr.length : Int) < (sr.length : Int) := by omega
          have hlenE : (Esel l true k).length = sr.length := by rw [esel_len HROW.out, HSEL.out]
          have hown5 := HOWN4.out
          rw [List.take_of_length_le (by omega)] at hown5
          change wr.ownsRow (w.heap.size + 1) 4 1 (.slice (some ⟨w.heap.size + 1, 0, none⟩) l.length l.length) l.length (bools (bsAt l.length (loopF (Esel l true) comp) k (loopF (Esel l true) comp k))) at hown5
          rw [bsAt_next] at hown5
          have HOWN5 := Lib.hid hown5
          have HF15 := Lib.hid (HF13.out.trans HF4.out (by simp))
          clear hown5 hlenE
          go_wp2_with fail
          go_roundg (l.length - (k + 1))
          case rel => exact ⟨k + 1, rfl, by omega, by go_num, HOWN5.out, HF15.out⟩
          case measure => omega
    · have hkl : k = l.length := by omega
      subst hkl
      have i5 : ¬ (l.length : Int) < (l.length : Int) := by omega
      go_wp2_with fail
      go_ret
      have h9 := HOWN.out
      rw [bsAt_end] at h9
      have hF9 : Frm [w.heap.size + 1] w wr := (f0.mono (fq := [w.heap.size + 1]) (by simp)).trans HFB.out (by simp)
      exact ⟨w.heap.size + 1, rfl, ownsB_mono h9 (by omega), ⟨hF9.os, hF9.tape, hF9.output, hF9.size, fun q hq _ => hF9.block q hq (by simp; omega)⟩⟩

end Go.Proofs.Ytknfdpkfomlckaa

/- Contract of graph.follow. -/
namespace Go.Proofs.Ytknfdpkfomlckaa
open Go.RowKit

/-- The first successor with distance d, or -1. -/
def followL (dist : List Int) (d : Int) : List Nat → Int
  | [] => -1
  | t :: r => if Tj.ix dist t = d then (t : Int) else followL dist d r
def FollowEnd (x : Int) (e : Ending) : Prop := e = .returned (.int .i64 x)

set_option linter.unusedSimpArgs false in
set_option maxRecDepth 100000 in
set_option maxHeartbeats 2000000 in
theorem follow_any (B : Nat) (a : Option Addr) (cap : Nat) (l : Lts) (hv : VLts l) (s : Nat) (hs : s < l.length) (ca : Option Addr) (cc : Nat) (dist : List Int) (d : Int) (w : World) (h0 : LAt B w a cap l) (hc0 : Rd B w ca l.length cc 1 (ints dist)) :
    Calls Try.prog 51 #[.agg #[.slice a l.length cap], .int .i64 (s : Int), .slice ca l.length cc, .int .i64 d] w fun e w' => FollowEnd (followL dist d (Esel l true s)) e ∧ Frm [] w w' := by
  have f0 : Frm [] w (w.alloc (.cells #[.slice a l.length cap] 25)) := (Frm.refl [] w).alloc _
  have hbox := box1 w (.slice a l.length cap) 25
  have hcl : dist.length = l.length := by have := hc0.len; rw [ints_len] at this; omega
  have HB := Lib.hid hbox
  have H0 := Lib.hid (h0.nil f0 rfl)
  have HC := Lib.hid (hc0.frm f0 (by simp))
  have HV := Lib.hid hv
  have HCL := Lib.hid hcl
  have hlt := h0.lt
  have hclt := hc0.lt
  have hfew := hv.few
  have i2 : (l.length : Int) ≤ 16384 := by omega
  obtain ⟨row, hrow⟩ : ∃ row, l[s]? = some row := ⟨_, List.getElem?_eq_getElem hs⟩
  have hbr := hbox.cell (i := 0) rfl
  have harc := arcs_any B a cap l s row true _ H0.out hrow
  have hfewr := (hv.row row (List.mem_of_getElem? hrow)).few
  have hlen := sel_len row true
  obtain ⟨sr, hsr⟩ : ∃ sr, sel row true = sr := ⟨_, rfl⟩
  have HSEL := Lib.hid hsr
  have HROW := Lib.hid hrow
  rw [hsr] at harc hlen
  have HARC := Lib.hid harc
  have i6 : (sr.length : Int) ≤ 262144 := by omega
  have i4 : (0 : Int) ≤ (s : Int) := by omega
  have i5 : (s : Int) < (l.length : Int) := by omega
  clear h0 hc0 hv hbox hcl harc hsr hrow
  go_enter Try.func51, Try.ntmps51
  go_wp2_with fail
  refine HARC.out.mono ?_
  rintro e3 w3 ⟨⟨ra, rc, rfl, hrr⟩, hf3⟩
  have HRR := Lib.hid hrr
  have HF3 := Lib.hid hf3
  clear hrr hf3 hbr
  go_wp2_with fail
  go_loopg [15] sr.length (fun q i wr => ∃ (j : Nat), q = sr.length - j ∧ j ≤ sr.length ∧ i = .int .i64 (j : Int) ∧ followL dist d ((Esel l true s).drop j) = followL dist d (Esel l true s) ∧ Frm [] w3 wr)
  case atStart => exact ⟨0, rfl, Nat.zero_le _, rfl, rfl, Frm.refl _ _⟩
  case round =>
    obtain ⟨j, rfl, hj, rfl, hfo, hF4⟩ := hrel
    have HFO := Lib.hid hfo
    have HF4 := Lib.hid hF4
    have HFB4 := Lib.hid (HF3.out.trans hF4 (by simp))
    have i8 : (0 : Int) ≤ (j : Int) := by omega
    clear hfo hF4
    by_cases hjl : j < sr.length
    · have i9 : (j : Int) < (sr.length : Int) := by omega
      obtain ⟨⟨e, t⟩, harc⟩ : ∃ y, sr[j]? = some y := ⟨_, List.getElem?_eq_getElem hjl⟩
      obtain ⟨m, rfl, hmn⟩ := sel_ok HV.out HROW.out (by rw [HSEL.out]; exact harc)
      have hEm : (Esel l true s)[j]? = some m := by
        have := esel_get HROW.out (silent := true) (j := j) (by rw [HSEL.out]; exact harc)
        simpa [Esel] using this
      obtain ⟨b1, o1, rfl, hb1, q1, q2⟩ := HRR.out.2.2.2 j e m harc
      have d1 := HF4.out.cell q1 (by simp)
      have d2 := HF4.out.cell q2 (by simp)
      obtain ⟨xm, hxm⟩ : ∃ xm, dist[m]? = some xm := ⟨_, List.getElem?_eq_getElem (by rw [HCL.out]; exact hmn)⟩
      have hixm := Tj.ix_get hxm
      obtain ⟨cb, co, rfl, hcb, cm⟩ := (HC.out.frm HFB4.out (by simp)).at hxm
      have n1 := World.block_lt_of_cell? _ _ cm
      have n2 := World.block_lt_of_cell? _ _ d1
      simp only at n1 n2
      have i10 : (m : Int) < (l.length : Int) := by omega
      have i11 : (0 : Int) ≤ (m : Int) := by omega
      have hfo2 := HFO.out
      rw [drop_cons hEm, followL, hixm] at hfo2
      clear harc hEm q1 q2 hxm hixm HFO
      by_cases hxx : xm = d
      · subst hxx
        have hbb : (xm == xm) = true := by simp
        rw [if_pos rfl] at hfo2
        have HFO2 := Lib.hid hfo2
        clear hfo2
        go_wp2_with fail
        go_ret
        exact ⟨by rw [← HFO2.out]; rfl, f0.trans (HFB4.out.alloc _) (by simp)⟩
      · have hbb : (xm == d) = false := by simpa using hxx
        rw [if_neg hxx] at hfo2
        have HFO2 := Lib.hid hfo2
        clear hfo2
        go_wp2_with fail
        go_roundg (sr.length - (j + 1))
        case rel => exact ⟨j + 1, rfl, hjl, by go_num, HFO2.out, HF4.out.alloc _⟩
        case measure => omega
    · have hjn : j = sr.length := by omega
      subst hjn
      have i9 : ¬ (sr.length : Int) < (sr.length : Int) := by omega
      have hlenE : (Esel l true s).length = sr.length := by rw [esel_len HROW.out, HSEL.out]
      have hfo2 := HFO.out
      rw [List.drop_eq_nil_of_le (by omega)] at hfo2
      have HFO2 := Lib.hid hfo2
      clear hfo2 hlenE
      go_wp2_with fail
      go_ret
      exact ⟨by rw [← HFO2.out]; rfl, f0.trans HFB4.out (by simp)⟩

end Go.Proofs.Ytknfdpkfomlckaa
