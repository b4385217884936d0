/- Contract of reached of the reference's heap. -/
import Derived.Test.YtlpgonnionbkfaaHL
namespace Go.Proofs.Ytlpgonnionbkfaa
open Go.RowKit

def RdEnd (B : Nat) (cs : List HC) (fr : List Nat) (w' : World) (e : Ending) : Prop :=
  ∃ (g : Nat) (seen : List Bool), e = .returned (.slice (some ⟨g, 0, none⟩) cs.length cs.length) ∧ w'.ownsRow B 4 1 (.slice (some ⟨g, 0, none⟩) cs.length cs.length) cs.length (bools seen) ∧ ∀ v : Nat, seen[v]? = some true ↔ v ∈ rset cs fr

/-- What the first loop has seen of the roots. -/
def Ini (cs : List HC) (rs : List Int) (j : Nat) (ord : List Nat) : Prop := ∀ r ∈ rs.take j, inL cs r = true → r.toNat ∈ ord
theorem Ini.next {cs : List HC} {rs : List Int} {j : Nat} {ord ord' : List Nat} {x : Int} (h : Ini cs rs j ord) (hx : rs[j]? = some x) (hs : ∀ v ∈ ord, v ∈ ord') (hn : inL cs x = true → x.toNat ∈ ord') : Ini cs rs (j + 1) ord' := fun r hr hin => by
  rw [List.take_add_one, hx, Option.toList_some] at hr
  rcases List.mem_append.1 hr with hr | hr
  · exact hs _ (h r hr hin)
  · rw [List.mem_singleton] at hr
    rw [hr] at hin ⊢
    exact hn hin
theorem Ini.all {cs : List HC} {rs : List Int} {j : Nat} {ord : List Nat} (h : Ini cs rs j ord) (hj : rs.length ≤ j) : ∀ u ∈ rts cs rs, u ∈ ord := fun u hu => by
  have h1 := mem_rts.1 hu
  have := h (u : Int) (by rw [List.take_of_length_le hj]; exact h1.2) (by simp [inL]; omega)
  simpa using this
theorem IntsAt.at {w : World} {a : Option Addr} {n cap : Nat} {xs : List Int} (h : IntsAt w (.slice a n cap) xs) {j : Nat} {x : Int} (hx : xs[j]? = some x) : ∃ b o, a = some ⟨b, o, none⟩ ∧ w.cell? ⟨b, o + j, none⟩ = some (.int .i64 x) ∧ n = xs.length ∧ n ≤ cap ∧ cap ≤ maxLen := by
  rcases h with ⟨_, rfl⟩ | ⟨b, o, cp, he, h1, h2, _, h4⟩
  · simp at hx
  · simp only [Value.slice.injEq] at he
    obtain ⟨rfl, rfl, rfl⟩ := he
    exact ⟨b, o, rfl, h4 j x hx, rfl, h1, h2⟩
theorem QAt.nb {w : World} {B B2 : Nat} {v : Value} {xs : List Int} {g e size n c : Nat} {ys : List Value} (h : QAt w B v xs) (h2 : w.ownsRow B2 e size (.slice (some ⟨g, 0, none⟩) n c) n ys) (hne : 3 ≠ e) : ∀ k, v.ownBlock = some k → k ∉ [g] := fun k hk hm => by
  rw [List.mem_singleton] at hm
  subst hm
  rcases h with ⟨rfl, _⟩ | ⟨g', off, cap, cur, rfl, hb, hg, _⟩
  · simp [Value.ownBlock] at hk
  · simp [Value.ownBlock] at hk
    subst hk
    obtain ⟨cur2, hg2, _⟩ := own_rowg2 h2
    rw [hg] at hg2
    cases hg2
    exact hne rfl

set_option linter.unusedSimpArgs false in
set_option maxRecDepth 100000 in
set_option maxHeartbeats 4000000 in
theorem reached_any {w : World} {hb : Nat} {fp : List Nat} {most : Int} {cs : List HC} (h : HW 76 w hb fp most cs) (ho : HOk cs) (v : Value) (rs : List Int) (hv : IntsAt w v rs) (hrl : rs.length ≤ 1000) :
    Calls Try.prog 50 #[.pointer (some ⟨hb, 0, none⟩), v] w fun e w' => RdEnd w.heap.size cs (rts cs rs) w' e ∧ Frm [] w w' := by
  obtain ⟨cv, vs, h, rfl⟩ := h
  obtain ⟨a, cap, rfl, hl⟩ := owns_shape h.row
  obtain ⟨a2, cap2, rfl, hl2⟩ := hv.shape
  have h1 := h.hd.cell (i := 1) rfl
  have hsm := h.small
  have hhb := h.hd.lt
  have HH := Lib.hid h
  have HO := Lib.hid ho
  have HV := Lib.hid hv
  have hl2' : (rs.length : Int) ≤ 9223372036854775807 := hl2
  have irl : (rs.length : Int) ≤ 1000 := by omega
  clear h ho hv
  go_enter Try.func50, Try.ntmps50
  go_wp2_with (first | (at_make; refine wpl_make_b _ rfl (.tmp 14) rfl _ cs.length rfl rfl (by omega) ?_) | (at_make; fail))
  intro w1 hown1 hf1
  obtain ⟨gs, hgs⟩ : ∃ x, x = w.heap.size := ⟨_, rfl⟩
  rw [← hgs] at hown1 ⊢
  have HOWN1 := Lib.hid (ownsB_mono hown1 (C := w.heap.size) (by omega))
  have HF1 := Lib.hid hf1
  have HGS := Lib.hid hgs
  have hgs1 := (hown1.lt gs rfl).2
  clear hown1 hf1 hgs
  go_wp2_with fail
  go_loopg [6, 7] rs.length (fun q s6 s7 wr => ∃ (j : Nat) (seen : List Bool) (ord : List Nat) (a6 : Option Addr) (c6 : Nat), q = rs.length - j ∧ j ≤ rs.length ∧ s7 = .int .i64 (j : Int) ∧ s6 = .slice a6 ord.length c6 ∧ Bfr cs (rts cs rs) seen ord 0 ∧ Ini cs rs j ord ∧ QAt wr w.heap.size (.slice a6 ord.length c6) (natI ord) ∧
    wr.ownsRow w.heap.size 4 1 (.slice (some ⟨gs, 0, none⟩) cs.length cs.length) cs.length (bools seen) ∧ Frm [] w wr)
  case atStart => exact ⟨0, _, [], none, 0, rfl, Nat.zero_le _, rfl, rfl, Bfr.start cs _, (fun r hr => by simp at hr), QAt.nil _ _, HOWN1.out, HF1.out⟩
  case round =>
    obtain ⟨j, seen, ord, a6, c6, rfl, hj, rfl, rfl, hB, hI, hq, hos, hF⟩ := hrel
    have hfew := hB.few
    have HB := Lib.hid hB
    have HI := Lib.hid hI
    have HQ := Lib.hid hq
    have HOS := Lib.hid hos
    have HF := Lib.hid hF
    have hszr := hF.size
    have i4 : (0 : Int) ≤ (j : Int) := by omega
    have HHR := Lib.hid (HH.out.frm hF (by simp))
    clear hB hI hq hos hF
    by_cases hjl : j < rs.length
    · have i5 : (j : Int) < (rs.length : Int) := by omega
      obtain ⟨x, hx⟩ : ∃ x, rs[j]? = some x := ⟨_, List.getElem?_eq_getElem hjl⟩
      obtain ⟨b2, o2, rfl, qx, _, hc2, hm2⟩ := (HV.out.frm HF.out (by simp)).at hx
      have i6 : (rs.length : Int) ≤ (cap2 : Int) := by omega
      have HX := Lib.hid hx
      clear hx hm2 hc2
      cases hin : inL cs x with
      | false =>
        have hex := there_no HHR.out x (inL_no hin)
        have HN := Lib.hid (HI.out.next HX.out (fun v hv => hv) (fun h9 => by rw [hin] at h9; cases h9))
        clear hin
        go_wp2_with fail
        refine hex.mono ?_
        rintro e4 w4 ⟨rfl, rfl⟩
        clear hex
        go_wp2_with fail
        go_roundg (rs.length - (j + 1))
        case rel => exact ⟨j + 1, seen, ord, a6, c6, rfl, hjl, by go_num, rfl, HB.out, HN.out, HQ.out, HOS.out, HF.out⟩
        case measure => omega
      | true =>
        obtain ⟨k, rfl, hk⟩ := inL_nat hin
        obtain ⟨b, hb⟩ : ∃ b, seen[k]? = some b := ⟨_, List.getElem?_eq_getElem (by rw [HB.out.len]; exact hk)⟩
        have hex := there_yes HHR.out k hk
        have qs := (own_rowg2 HOS.out).cell (bools_get hb)
        have zs := (own_rowg2 HOS.out).frozen k
        have HBB := Lib.hid hb
        have i1 : (k : Int) < (cs.length : Int) := by omega
        have i2 : (0 : Int) ≤ (k : Int) := by omega
        have i3 : (cs.length : Int) ≤ 65536 := by omega
        have HK := Lib.hid hk
        clear hin hb hk
        cases b with
        | true =>
          have HN := Lib.hid (HI.out.next HX.out (fun v hv => hv) (fun _ => by rw [Int.toNat_natCast]; exact (HB.out.mem k).1 HBB.out))
          go_wp2_with fail
          refine hex.mono ?_
          rintro e4 w4 ⟨rfl, rfl⟩
          clear hex
          go_wp2_with fail
          go_roundg (rs.length - (j + 1))
          case rel => exact ⟨j + 1, seen, ord, a6, c6, rfl, hjl, by go_num, rfl, HB.out, HN.out, HQ.out, HOS.out, HF.out⟩
          case measure => omega
        | false =>
          have hno : k ∉ ord := fun hm => by
            have := (HB.out.mem k).2 hm
            rw [HBB.out] at this
            cases this
          have hin2 : k ∈ rts cs rs := mem_rts.2 ⟨HK.out, List.mem_of_getElem? HX.out⟩
          have htk := HB.out.mark HK.out hno ⟨k, hin2, .refl k⟩
          have HTK := Lib.hid htk
          have HN : Hid (Ini cs rs (j + 1) (ord ++ [k])) := Lib.hid (HI.out.next HX.out (fun v hv => List.mem_append_left _ hv) (fun _ => by simp))
          have hol : ord.length < cs.length := by have := htk.few; rw [List.length_append, List.length_singleton] at this; omega
          have f8 : Frm [gs] wr (wr.setCell ⟨gs, k, none⟩ (.bool true)) := (Frm.refl [gs] wr).setCell (.inl (by simp)) _
          have n6 := HQ.out.nb HOS.out (by decide)
          have H68 := Lib.hid (HQ.out.frm f8 n6)
          have H58 := Lib.hid (owns_cast (owns_put HOS.out k (.bool true)) (bools_set seen k true).symm)
          have hgs0 : w.heap.size ≤ gs := by rw [HGS.out]; exact Nat.le_refl _
          have HF8 := Lib.hid (HF.out.trans f8 (fun x hx => .inr (by rw [List.mem_singleton] at hx; omega)))
          have hgsw := (HOS.out.lt gs rfl).2
          have hnb : ∀ y, (Value.slice a6 ord.length c6).ownBlock = some y → y ≠ gs := fun y hy e => n6 y hy (by rw [e]; simp)
          have HNB := Lib.hid hnb
          have qx8 := f8.cell qx (fun hm => by
            rw [List.mem_singleton] at hm
            have h9 := (HF.out.size)
            have h8 : b2 < w.heap.size := by
              rcases HV.out with ⟨h7, _⟩ | ⟨b', o', cp', h7, _, _, h6, _⟩
              · cases h7
              · simp only [Value.slice.injEq, Option.some.injEq, Addr.mk.injEq] at h7
                rw [h7.1.1]; exact h6
            simp only at hm
            omega)
          have qx9 : ((wr.setCell ⟨gs, k, none⟩ (.bool true)).alloc (.cells #[.int .i64 (k : Int)] 3)).cell? ((⟨wr.heap.size, 0, none⟩ : Addr).add 0) = some (.int .i64 (k : Int)) := by
            have := cells_new (wr.setCell ⟨gs, k, none⟩ (.bool true)) [.int .i64 (k : Int)] 3 0 _ rfl
            simpa using this
          clear hno hin2 htk f8 n6 hnb
          go_wp2_with (first | (refine hex.mono ?_; rintro e4 w4 ⟨rfl, rfl⟩) | (at_builtin; refine app_q rfl (.tmp 44) (.tmp 49) rfl w.heap.size (ord.length + 1) (.slice a6 ord.length c6) (natI ord) rfl (H68.out.alloc _) ⟨wr.heap.size, 0, none⟩ 1 (k : Int) rfl qx9 (by rw [natI_len]) (by omega) (by simp; omega) ?_) | (at_builtin; fail))
          intro a9 c9 w9 hq9 hf9 hloc9
          have f9 : Frm [] (wr.setCell ⟨gs, k, none⟩ (.bool true)) ((wr.setCell ⟨gs, k, none⟩ (.bool true)).alloc (.cells #[.int .i64 (k : Int)] 3)) := (Frm.refl [] _).alloc _
          have H59 := Lib.hid (ownsB_frm (H58.out.alloc (.cells #[.int .i64 (k : Int)] 3)) hf9 (fun x hx hm => HNB.out x (by simpa using hm) (by simpa [Value.ownBlock] using hx.symm)))
          have HF9 : Hid (Frm [] w w9) := Lib.hid ((HF8.out.trans f9 (by simp)).trans hf9 (fun x hx => .inr (HQ.out.lt x (by simpa using hx)).1))
          have hlen9 : (ord ++ [k]).length = ord.length + 1 := by rw [List.length_append]; rfl
          have HL9 := Lib.hid hlen9
          have HQ9 : Hid (QAt w9 w.heap.size (.slice a9 (ord.length + 1) c9) (natI (ord ++ [k]))) := Lib.hid (by rw [natI, List.map_append]; exact hq9)
          clear hq9 hf9 hloc9 f9 hlen9 qx9 hex
          go_wp2_with fail
          go_roundg (rs.length - (j + 1))
          case rel => exact ⟨j + 1, seen.set k true, ord ++ [k], a9, c9, rfl, hjl, by go_num, by rw [HL9.out], HTK.out, HN.out, by rw [HL9.out]; exact HQ9.out, H59.out, HF9.out⟩
          case measure => omega
    · have hj9 : rs.length ≤ j := by omega
      have hall := HI.out.all hj9
      have HALL := Lib.hid hall
      have i5 : ¬ (j : Int) < (rs.length : Int) := by omega
      clear hall
      go_wp2_with fail
      obtain ⟨wx, hwx⟩ : ∃ x, x = wr := ⟨_, rfl⟩
      subst hwx
      go_loopg [6, 8, 9] cs.length (fun q s6 s8 s9 wr => ∃ (i : Nat) (seen : List Bool) (ord : List Nat) (a6 : Option Addr) (c6 : Nat), q = cs.length - i ∧ s6 = .slice a6 (ord.length - i) c6 ∧ Bfr cs (rts cs rs) seen ord i ∧ (∀ u ∈ rts cs rs, u ∈ ord) ∧ QAt wr w.heap.size (.slice a6 (ord.length - i) c6) (natI (ord.drop i)) ∧
        wr.ownsRow w.heap.size 4 1 (.slice (some ⟨gs, 0, none⟩) cs.length cs.length) cs.length (bools seen) ∧ Frm [] w wr)
      case atStart => exact ⟨0, seen, ord, a6, c6, rfl, rfl, HB.out, HALL.out, HQ.out, HOS.out, HF.out⟩
      case round =>
        clear HB HI HQ HOS HF HALL HHR hfew hszr
        obtain ⟨i, seen, ord, a6, c6, rfl, rfl, hB, hI, hq, hos, hF⟩ := hrel
        have hfew := hB.few
        have hile := hB.ile
        have HB := Lib.hid hB
        have HI := Lib.hid hI
        have HQ := Lib.hid hq
        have HOS := Lib.hid hos
        have HF := Lib.hid hF
        have hszr := hF.size
        have HHR := Lib.hid (HH.out.frm hF (by simp))
        clear hB hI hq hos hF
        by_cases hil : i < ord.length
        · obtain ⟨u, hu⟩ : ∃ u, ord[i]? = some u := ⟨_, List.getElem?_eq_getElem hil⟩
          obtain ⟨N, hN⟩ : ∃ N, ord.length - i = N + 1 := ⟨ord.length - i - 1, by omega⟩
          have huc := HB.out.lt u (List.mem_of_getElem? hu)
          have hdr : natI (ord.drop i) = (u : Int) :: natI (ord.drop (i + 1)) := by
            have h9 := (List.getElem?_eq_some_iff.1 hu).2
            rw [List.drop_eq_getElem_cons hil, h9]; rfl
          have hnl : (natI (ord.drop (i + 1))).length = N := by rw [natI_len, List.length_drop]; omega
          have hq2 := HQ.out
          rw [hN, hdr] at hq2
          rw [hN]
          obtain ⟨g6, off, cp6, he6, hc6, hm6⟩ := hq2.shape (by simp)
          rw [List.length_cons, hnl] at he6 hc6
          obtain ⟨rfl, rfl⟩ : a6 = some ⟨g6, off, none⟩ ∧ c6 = cp6 := by simpa using he6
          have q6 := hq2.get (i := 0) rfl
          rw [Nat.add_zero] at q6
          have hq3 := hq2.tail
          have hq4 := hq2.tail0
          rw [hnl] at hq3 hq4
          have HQ4 := Lib.hid hq4
          have hcs := cellAt_get huc
          have htwo := HO.out.few huc
          have hri := fun r hr => HO.out.ref huc r hr
          obtain ⟨⟨kd, nm, rf⟩, hc⟩ : ∃ c, cellAt cs u = c := ⟨_, rfl⟩
          rw [hc] at hcs htwo hri
          obtain ⟨cb, cap9, he9, _, hcm9, hcc9⟩ := HHR.out.shape (by omega)
          obtain ⟨rfl, rfl⟩ : a = some ⟨cb, 0, none⟩ ∧ cap = cap9 := by simpa using he9
          obtain ⟨vr, hvr, k0, k1, k2, _, _, _, _⟩ := hcc9 u _ hcs
          have hrf := HH.out.refs u _ vr hcs hvr
          obtain ⟨ar, cr, rfl, hlr⟩ := owns_shape hrf
          have hq9 := HHR.out.hd.cell (i := 1) rfl
          have hhbr := HHR.out.hd.lt
          have HIR := Lib.hid (ints_of_owns hrf)
          have HRF := Lib.hid hrf
          have HQ3 := Lib.hid hq3
          have HU := Lib.hid hu
          have HC := Lib.hid hc
          have HRI := Lib.hid hri
          have i1 : (u : Int) < (cs.length : Int) := by omega
          have i2 : (0 : Int) ≤ (u : Int) := by omega
          have i3 : (cs.length : Int) ≤ 65536 := by omega
          have i6 : (0 : Int) < ((N + 1 : Nat) : Int) := by omega
          have i7 : N + 1 ≤ 65536 := by omega
          have HM6 := Lib.hid hm6
          have hcbr : cb < wr.heap.size := HHR.out.lt cb (by simp [fpOf, Value.ownBlock])
          have hg6r := (HQ.out.lt g6 (by rw [Value.ownBlock])).2
          have n1 : cb ≠ wr.heap.size := by omega
          have n2 : g6 ≠ wr.heap.size := by omega
          have n3 : hb ≠ wr.heap.size := by omega
          clear hu hdr hq2 hq3 hq4 hcs hc hri hcc9 he6 he9 hrf hnl hm6 huc
          have h8 : ((wr.alloc (.cells #[.int .i64 kd, .int .i64 nm, .slice ar rf.length cr] 32)).drew).ownsRow 0 32 3 (.slice (some ⟨wr.heap.size, 0, none⟩) 1 1) 1 [.int .i64 kd, .int .i64 nm, .slice ar rf.length cr] := owns_made_full wr 32 3 [.int .i64 kd, .int .i64 nm, .slice ar rf.length cr] 1 rfl (by decide)
          have f8 : Frm [] wr ((wr.alloc (.cells #[.int .i64 kd, .int .i64 nm, .slice ar rf.length cr] 32)).drew) := ((Frm.refl [] wr).alloc _).drew
          have hgs8 := (HOS.out.lt gs rfl).2
          have H8 := Lib.hid h8
          have HQ8 := Lib.hid (HQ3.out.frm f8 (by simp))
          have HQ8B := Lib.hid (fun h9 => (HQ4.out h9).frm f8 (by simp))
          have HOS8 := Lib.hid (ownsB_frm HOS.out f8 (by simp))
          have HF8 := Lib.hid (HF.out.trans f8 (by simp))
          have hir : IntsAt w (.slice ar rf.length cr) rf := HIR.out
          have hirb : ∀ k, (Value.slice ar rf.length cr).ownBlock = some k → k < w.heap.size := fun k hk => (HRF.out.lt k hk).2
          have HIRB := Lib.hid hirb
          clear h8 f8 hir hirb
          go_wp2_with fail
          go_region
          go_wp2_with fail
          all_goals (
            obtain ⟨b8, hb8⟩ : ∃ x, x = wr.heap.size := ⟨_, rfl⟩
            rw [← hb8] at H8 n1 n2 n3 hgs8 ⊢
            clear k0 k1 k2 hq9 q6
            have n8 : b8 ≠ gs := by omega
            clear hszr HHR hb8 hgs8
            obtain ⟨wx, hwx⟩ : ∃ x, x = wr := ⟨_, rfl⟩
            subst hwx
            go_loopg [6, 9] rf.length (fun q s6 s9 wr => ∃ (k : Nat) (seen : List Bool) (ord' : List Nat) (M : Nat) (a6 : Option Addr) (c6 : Nat), q = rf.length - k ∧ k ≤ rf.length ∧ s9 = .int .i64 (k : Int) ∧ s6 = .slice a6 M c6 ∧ ord'.length - (i + 1) = M ∧ Bfr cs (rts cs rs) seen ord' i ∧ ord'[i]? = some u ∧ (∀ u ∈ rts cs rs, u ∈ ord') ∧ (∀ x ∈ rf.take k, x.toNat ∈ ord') ∧
              QAt wr w.heap.size (.slice a6 M c6) (natI (ord'.drop (i + 1))) ∧ wr.ownsRow w.heap.size 4 1 (.slice (some ⟨gs, 0, none⟩) cs.length cs.length) cs.length (bools seen) ∧ wr.ownsRow 0 32 3 (.slice (some ⟨b8, 0, none⟩) 1 1) 1 [.int .i64 kd, .int .i64 nm, .slice ar rf.length cr] ∧ Frm [] w wr)
            case atStart => first | exact ⟨0, seen, ord, N, some ⟨g6, off + 1, none⟩, c6 - 1, rfl, Nat.zero_le _, rfl, rfl, by omega, HB.out, HU.out, HI.out, (by simp), HQ8.out, HOS8.out, H8.out, HF8.out⟩ | exact ⟨0, seen, ord, N, some ⟨g6, off, none⟩, 0, rfl, Nat.zero_le _, rfl, rfl, by omega, HB.out, HU.out, HI.out, (by simp), HQ8B.out (by assumption), HOS8.out, H8.out, HF8.out⟩
            case round =>
              clear HB HU HI HQ8 HQ8B HQ4 HOS8 H8 HF8 HQ HQ3 HOS HF hfew hile hil hN
              obtain ⟨k, seen, ord', M, a6, c6, rfl, hk, rfl, rfl, hM, hB, hU, hI, hT, hq, hos, h8, hF⟩ := hrel
              have hfew := hB.few
              have HB := Lib.hid hB
              have HI := Lib.hid hI
              have HU := Lib.hid hU
              have HT := Lib.hid hT
              have HQ := Lib.hid hq
              have HOS := Lib.hid hos
              have H8 := Lib.hid h8
              have HF := Lib.hid hF
              have HM := Lib.hid hM
              have hszr := hF.size
              have k8 := (own_rowg2 h8).cell (i := 2) rfl
              have iil : i + 1 ≤ ord'.length := (List.getElem?_eq_some_iff.1 hU).1
              have i4 : (0 : Int) ≤ (k : Int) := by omega
              clear hB hI hU hT hq hos h8 hF hM
              by_cases hkl : k < rf.length
              · have i5 : (k : Int) < (rf.length : Int) := by omega
                obtain ⟨x, hx⟩ : ∃ x, rf[k]? = some x := ⟨_, List.getElem?_eq_getElem hkl⟩
                have hxr := HRI.out x (List.mem_of_getElem? hx)
                obtain ⟨m, rfl⟩ := Int.eq_ofNat_of_zero_le hxr.1
                have hm : m < cs.length := by omega
                have htake : rf.take (k + 1) = rf.take k ++ [(m : Int)] := by rw [List.take_add_one, hx]; rfl
                obtain ⟨b2, o2, rfl, qx, _, hc2, hm2⟩ := (HIR.out.frm HF.out (by simp)).at hx
                have i6 : (rf.length : Int) ≤ (cr : Int) := by omega
                have HX := Lib.hid hx
                have HTK := Lib.hid htake
                have hb2 := HIRB.out b2 rfl
                obtain ⟨b, hb⟩ : ∃ b, seen[m]? = some b := ⟨_, List.getElem?_eq_getElem (by rw [HB.out.len]; exact hm)⟩
                have qs := (own_rowg2 HOS.out).cell (bools_get hb)
                have zs := (own_rowg2 HOS.out).frozen m
                have HBB := Lib.hid hb
                have i1 : (m : Int) < (cs.length : Int) := by omega
                have i2 : (0 : Int) ≤ (m : Int) := by omega
                have i3 : (cs.length : Int) ≤ 65536 := by omega
                have HMM := Lib.hid hm
                clear hx hxr htake hm2 hc2 hb hm
                cases b with
                | true =>
                  have HN : Hid (∀ x ∈ rf.take (k + 1), x.toNat ∈ ord') := Lib.hid (fun x hx => by
                    rw [HTK.out] at hx
                    rcases List.mem_append.1 hx with hx | hx
                    · exact HT.out x hx
                    · rw [List.mem_singleton] at hx
                      rw [hx, Int.toNat_natCast]
                      exact (HB.out.mem m).1 HBB.out)
                  go_wp2_with fail
                  go_roundg (rf.length - (k + 1))
                  case rel => exact ⟨k + 1, seen, ord', M, a6, c6, rfl, hkl, by go_num, rfl, HM.out, HB.out, HU.out, HI.out, HN.out, HQ.out, HOS.out, H8.out, HF.out⟩
                  case measure => omega
                | false =>
                  have hno : m ∉ ord' := fun hm => by
                    have := (HB.out.mem m).2 hm
                    rw [HBB.out] at this
                    cases this
                  have hsnd : ∃ v ∈ rts cs rs, Path (Ed cs) v m := by
                    obtain ⟨v, hv, hp⟩ := HB.out.snd u (List.mem_of_getElem? HU.out)
                    refine ⟨v, hv, hp.snoc (List.mem_map.2 ⟨(m : Int), ?_, by simp⟩)⟩
                    rw [HC.out]
                    exact List.mem_of_getElem? HX.out
                  have htk := HB.out.mark HMM.out hno hsnd
                  have HTM := Lib.hid htk
                  have HN : Hid (∀ x ∈ rf.take (k + 1), x.toNat ∈ ord' ++ [m]) := Lib.hid (fun x hx => by
                    rw [HTK.out] at hx
                    rcases List.mem_append.1 hx with hx | hx
                    · exact List.mem_append_left _ (HT.out x hx)
                    · rw [List.mem_singleton] at hx
                      rw [hx, Int.toNat_natCast]
                      exact List.mem_append_right _ (by simp))
                  have HU2 : Hid ((ord' ++ [m])[i]? = some u) := Lib.hid (by rw [List.getElem?_append_left (by omega)]; exact HU.out)
                  have HI2 : Hid (∀ u ∈ rts cs rs, u ∈ ord' ++ [m]) := Lib.hid (fun u hu => List.mem_append_left _ (HI.out u hu))
                  have hol : ord'.length < cs.length := by have := htk.few; rw [List.length_append, List.length_singleton] at this; omega
                  have f8 : Frm [gs] wr (wr.setCell ⟨gs, m, none⟩ (.bool true)) := (Frm.refl [gs] wr).setCell (.inl (by simp)) _
                  have n6 := HQ.out.nb HOS.out (by decide)
                  have n68 := HQ.out.nb H8.out (by decide)
                  have H68 := Lib.hid (HQ.out.frm f8 n6)
                  have H58 := Lib.hid (owns_cast (owns_put HOS.out m (.bool true)) (bools_set seen m true).symm)
                  have H88 := Lib.hid (ownsB_frm H8.out f8 (fun x hx hm => by simp [Value.ownBlock] at hx hm; omega))
                  have hgs0 : w.heap.size ≤ gs := by rw [HGS.out]; exact Nat.le_refl _
                  have HF8 := Lib.hid (HF.out.trans f8 (fun x hx => .inr (by rw [List.mem_singleton] at hx; omega)))
                  have hgsw := (HOS.out.lt gs rfl).2
                  have hnb : ∀ y, (Value.slice a6 M c6).ownBlock = some y → y ≠ gs ∧ y ≠ b8 := fun y hy => ⟨fun e => n6 y hy (by rw [e]; simp), fun e => n68 y hy (by rw [e]; simp)⟩
                  have HNB := Lib.hid hnb
                  have nb2 : b2 ≠ gs := by omega
                  have qx9 : ((wr.setCell ⟨gs, m, none⟩ (.bool true)).alloc (.cells #[.int .i64 (m : Int)] 3)).cell? ((⟨wr.heap.size, 0, none⟩ : Addr).add 0) = some (.int .i64 (m : Int)) := by
                    have := cells_new (wr.setCell ⟨gs, m, none⟩ (.bool true)) [.int .i64 (m : Int)] 3 0 _ rfl
                    simpa using this
                  have qx8 := f8.cell qx (by simpa using nb2)
                  have k88 := f8.cell k8 (by simpa using n8)
                  have iM : M ≤ 65536 := by have := HM.out; omega
                  have hql : (natI (ord'.drop (i + 1))).length = M := by rw [natI_len, List.length_drop]; exact HM.out
                  have HQL := Lib.hid hql
                  clear hno hsnd htk f8 n6 n68 hnb hql
                  go_wp2_with (first | (at_builtin; refine app_q rfl (.tmp 88) (.tmp 94) rfl w.heap.size (M + 1) (.slice a6 M c6) (natI (ord'.drop (i + 1))) rfl (H68.out.alloc _) ⟨wr.heap.size, 0, none⟩ 1 (m : Int) rfl qx9 (by rw [HQL.out]) (by omega) (by simp; omega) ?_) | (at_builtin; fail))
                  intro a9 c9 w9 hq9 hf9 hloc9
                  have f9 : Frm [] (wr.setCell ⟨gs, m, none⟩ (.bool true)) ((wr.setCell ⟨gs, m, none⟩ (.bool true)).alloc (.cells #[.int .i64 (m : Int)] 3)) := (Frm.refl [] _).alloc _
                  have H59 := Lib.hid (ownsB_frm (H58.out.alloc (.cells #[.int .i64 (m : Int)] 3)) hf9 (fun x hx hm => (HNB.out x (by simpa using hm)).1 (by simpa [Value.ownBlock] using hx.symm)))
                  have H89 := Lib.hid (ownsB_frm (H88.out.alloc (.cells #[.int .i64 (m : Int)] 3)) hf9 (fun x hx hm => (HNB.out x (by simpa using hm)).2 (by simpa [Value.ownBlock] using hx.symm)))
                  have HF9 : Hid (Frm [] w w9) := Lib.hid ((HF8.out.trans f9 (by simp)).trans hf9 (fun x hx => .inr (HQ.out.lt x (by simpa using hx)).1))
                  have hlen9 : (ord' ++ [m]).length - (i + 1) = M + 1 := by have := HM.out; rw [List.length_append, List.length_singleton]; omega
                  have HL9 := Lib.hid hlen9
                  have HQ9 : Hid (QAt w9 w.heap.size (.slice a9 (M + 1) c9) (natI ((ord' ++ [m]).drop (i + 1)))) := Lib.hid (by
                    rw [List.drop_append_of_le_length iil, natI, List.map_append]; exact hq9)
                  clear hq9 hf9 hloc9 f9 hlen9 qx9 qx8 k88
                  go_wp2_with fail
                  go_roundg (rf.length - (k + 1))
                  case rel => exact ⟨k + 1, seen.set m true, ord' ++ [m], M + 1, a9, c9, rfl, hkl, by go_num, rfl, HL9.out, HTM.out, HU2.out, HI2.out, HN.out, HQ9.out, H59.out, H89.out, HF9.out⟩
                  case measure => omega
              · have i5 : ¬ (k : Int) < (rf.length : Int) := by omega
                have HALL : Hid (∀ x ∈ Ed cs u, x ∈ ord') := Lib.hid (fun x hx => by
                  obtain ⟨r, hr, rfl⟩ := List.mem_map.1 hx
                  rw [HC.out] at hr
                  exact HT.out r (by rw [List.take_of_length_le (by omega)]; exact hr))
                have HNX := Lib.hid (HB.out.next HU.out HALL.out)
                have hic : i < cs.length := by omega
                go_wp2_with fail
                go_roundg (cs.length - (i + 1))
                case rel => exact ⟨i + 1, seen, ord', a6, c6, rfl, by rw [HM.out], HNX.out, HI.out, by rw [HM.out]; exact HQ.out, HOS.out, HF.out⟩
                case measure => omega)
        · have i6 : ¬ (0 : Int) < ((ord.length - i : Nat) : Int) := by omega
          go_wp2_with fail
          go_ret
          exact ⟨⟨gs, seen, rfl, HOS.out, fun v => HB.out.done (by omega) HI.out v⟩, HF.out⟩

end Go.Proofs.Ytlpgonnionbkfaa
