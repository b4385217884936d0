/- Contract of graph.follow. -/
import Derived.Test.YtknfdpkfomlckaaY1
namespace Go.Proofs.Ytknfdpkfomlckaa
open Go.RowKit

/-- The first successor with distance d, or -1. -/
def followL (dist : List Int) (d : Int) : List Nat → Int
  | [] => -1
  | t :: r => if Tj.ix dist t = d then (t : Int) else followL dist d r
def FollowEnd (x : Int) (e : Ending) : Prop := e = .returned (.int .i64 x)

set_option linter.unusedSimpArgs false in
set_option maxRecDepth 100000 in
set_option maxHeartbeats 2000000 in
theorem follow_any (B : Nat) (a : Option Addr) (cap : Nat) (l : Lts) (hv : VLts l) (s : Nat) (hs : s < l.length) (ca : Option Addr) (cc : Nat) (dist : List Int) (d : Int) (w : World) (h0 : LAt B w a cap l) (hc0 : Rd B w ca l.length cc 1 (ints dist)) :
    Calls Try.prog 51 #[.agg #[.slice a l.length cap], .int .i64 (s : Int), .slice ca l.length cc, .int .i64 d] w fun e w' => FollowEnd (followL dist d (Esel l true s)) e ∧ Frm [] w w' := by
  have f0 : Frm [] w (w.alloc (.cells #[.slice a l.length cap] 25)) := (Frm.refl [] w).alloc _
  have hbox := box1 w (.slice a l.length cap) 25
  have hcl : dist.length = l.length := by have := hc0.len; rw [ints_len] at this; omega
  have HB := Lib.hid hbox
  have H0 := Lib.hid (h0.nil f0 rfl)
  have HC := Lib.hid (hc0.frm f0 (by simp))
  have HV := Lib.hid hv
  have HCL := Lib.hid hcl
  have hlt := h0.lt
  have hclt := hc0.lt
  have hfew := hv.few
  have i2 : (l.length : Int) ≤ 16384 := by omega
  obtain ⟨row, hrow⟩ : ∃ row, l[s]? = some row := ⟨_, List.getElem?_eq_getElem hs⟩
  have hbr := hbox.cell (i := 0) rfl
  have harc := arcs_any B a cap l s row true _ H0.out hrow
  have hfewr := (hv.row row (List.mem_of_getElem? hrow)).few
  have hlen := sel_len row true
  obtain ⟨sr, hsr⟩ : ∃ sr, sel row true = sr := ⟨_, rfl⟩
  have HSEL := Lib.hid hsr
  have HROW := Lib.hid hrow
  rw [hsr] at harc hlen
  have HARC := Lib.hid harc
  have i6 : (sr.length : Int) ≤ 262144 := by omega
  have i4 : (0 : Int) ≤ (s : Int) := by omega
  have i5 : (s : Int) < (l.length : Int) := by omega
  clear h0 hc0 hv hbox hcl harc hsr hrow
  go_enter Try.func51, Try.ntmps51
  go_wp2_with fail
  refine HARC.out.mono ?_
  rintro e3 w3 ⟨⟨ra, rc, rfl, hrr⟩, hf3⟩
  have HRR := Lib.hid hrr
  have HF3 := Lib.hid hf3
  clear hrr hf3 hbr
  go_wp2_with fail
  go_loopg [15] sr.length (fun q i wr => ∃ (j : Nat), q = sr.length - j ∧ j ≤ sr.length ∧ i = .int .i64 (j : Int) ∧ followL dist d ((Esel l true s).drop j) = followL dist d (Esel l true s) ∧ Frm [] w3 wr)
  case atStart => exact ⟨0, rfl, Nat.zero_le _, rfl, rfl, Frm.refl _ _⟩
  case round =>
    obtain ⟨j, rfl, hj, rfl, hfo, hF4⟩ := hrel
    have HFO := Lib.hid hfo
    have HF4 := Lib.hid hF4
    have HFB4 := Lib.hid (HF3.out.trans hF4 (by simp))
    have i8 : (0 : Int) ≤ (j : Int) := by omega
    clear hfo hF4
    by_cases hjl : j < sr.length
    · have i9 : (j : Int) < (sr.length : Int) := by omega
      obtain ⟨⟨e, t⟩, harc⟩ : ∃ y, sr[j]? = some y := ⟨_, List.getElem?_eq_getElem hjl⟩
      obtain ⟨m, rfl, hmn⟩ := sel_ok HV.out HROW.out (by rw [HSEL.out]; exact harc)
      have hEm : (Esel l true s)[j]? = some m := by
        have := esel_get HROW.out (silent := true) (j := j) (by rw [HSEL.out]; exact harc)
        simpa [Esel] using this
      obtain ⟨b1, o1, rfl, hb1, q1, q2⟩ := HRR.out.2.2.2 j e m harc
      have d1 := HF4.out.cell q1 (by simp)
      have d2 := HF4.out.cell q2 (by simp)
      obtain ⟨xm, hxm⟩ : ∃ xm, dist[m]? = some xm := ⟨_, List.getElem?_eq_getElem (by rw [HCL.out]; exact hmn)⟩
      have hixm := Tj.ix_get hxm
      obtain ⟨cb, co, rfl, hcb, cm⟩ := (HC.out.frm HFB4.out (by simp)).at hxm
      have n1 := World.block_lt_of_cell? _ _ cm
      have n2 := World.block_lt_of_cell? _ _ d1
      simp only at n1 n2
      have i10 : (m : Int) < (l.length : Int) := by omega
      have i11 : (0 : Int) ≤ (m : Int) := by omega
      have hfo2 := HFO.out
      rw [drop_cons hEm, followL, hixm] at hfo2
      clear harc hEm q1 q2 hxm hixm HFO
      by_cases hxx : xm = d
      · subst hxx
        have hbb : (xm == xm) = true := by simp
        rw [if_pos rfl] at hfo2
        have HFO2 := Lib.hid hfo2
        clear hfo2
        go_wp2_with fail
        go_ret
        exact ⟨by rw [← HFO2.out]; rfl, f0.trans (HFB4.out.alloc _) (by simp)⟩
      · have hbb : (xm == d) = false := by simpa using hxx
        rw [if_neg hxx] at hfo2
        have HFO2 := Lib.hid hfo2
        clear hfo2
        go_wp2_with fail
        go_roundg (sr.length - (j + 1))
        case rel => exact ⟨j + 1, rfl, hjl, by go_num, HFO2.out, HF4.out.alloc _⟩
        case measure => omega
    · have hjn : j = sr.length := by omega
      subst hjn
      have i9 : ¬ (sr.length : Int) < (sr.length : Int) := by omega
      have hlenE : (Esel l true s).length = sr.length := by rw [esel_len HROW.out, HSEL.out]
      have hfo2 := HFO.out
      rw [List.drop_eq_nil_of_le (by omega)] at hfo2
      have HFO2 := Lib.hid hfo2
      clear hfo2 hlenE
      go_wp2_with fail
      go_ret
      exact ⟨by rw [← HFO2.out]; rfl, f0.trans HFB4.out (by simp)⟩

end Go.Proofs.Ytknfdpkfomlckaa
