/- Texts AF, B4, B9, BA, C0, VK. -/
import Derived.Test.YtikpcipkkhmcfaaGreatQ15
import Derived.Laws.AppendOwnNone
import Derived.Test.YtikpcipkkhmcfaaGreatQ17
import Derived.Test.YtikpcipkkhmcfaaGreatQ19
import Derived.Test.YtikpcipkkhmcfaaGreatQ18
import Derived.Test.YtikpcipkkhmcfaaGreatQ16
import Derived.Test.YtikpcipkkhmcfaaGreatQ08
/- Merged text: R1, R2, R3, R4 of the notes. -/
/- Contract of inStates of the reference. -/
namespace Go.Proofs.YtikpcipkkhmcfaaGreat
open Go.RowKit

set_option linter.unusedSimpArgs false in
set_option maxRecDepth 100000 in
set_option maxHeartbeats 2000000 in
theorem instates_any (B : Nat) (a : Option Addr) (cap : Nat) (l : Lts) (fa : Option Addr) (fc : Nat) (fs : List Int) (w : World) (h0 : LAt B w a cap l) (hf0 : Rd B w fa fs.length fc 1 (ints fs)) :
  Calls Tryz.prog 72 #[.agg #[.slice a l.length cap], .slice fa fs.length fc] w fun e w' => e = .returned (.bool (fs.all (inB l.length))) ∧ Frm [] w w' := by
 have f0 : Frm [] w (w.alloc (.cells #[.slice a l.length cap] 25)) := (Frm.refl [] w).alloc _
 have hlt := h0.lt
 have l1 := hf0.lt
 have HB := Lib.hid (box1 w (.slice a l.length cap) 25)
 have H := Lib.hid (hf0.frm f0 (by simp))
 clear h0 hf0
 obtain ⟨R, hR⟩ : ∃ R, fs.all (inB l.length) = R := ⟨_, rfl⟩
 rw [hR]
 go_enter Tryz.func72, Tryz.ntmps72
 go_wp2_with fail
 go_loopg [5] fs.length (fun q i wr => ∃ (k : Nat), q = fs.length - k ∧ k ≤ fs.length ∧ i = .int .i64 (k : Int) ∧ (fs.drop k).all (inB l.length) = R ∧ Frm [] (w.alloc (.cells #[.slice a l.length cap] 25)) wr)
 case atStart => exact ⟨0, rfl, Nat.zero_le _, rfl, hR, Frm.refl _ _⟩
 case round =>
  clear hR
  obtain ⟨k, rfl, hk, rfl, hd, hF⟩ := hrel
  have HF := Lib.hid hF
  have cb := (HB.out.frm hF (by simp)).cell (i := 0) rfl
  have i4 : (0 : Int) ≤ (k : Int) := by omega
  clear hF
  by_cases hlt2 : k < fs.length
  ·have i5 : (k : Int) < (fs.length : Int) := by omega
   obtain ⟨y, hy⟩ : ∃ y, fs[k]? = some y := ⟨_, List.getElem?_eq_getElem hlt2⟩
   rw [drop_cons hy, List.all_cons] at hd
   obtain ⟨g, o, rfl, _, c1⟩ := H.out.at hy
   have d1 := HF.out.cell c1 (by simp)
   clear c1 hy
   by_cases hy0 : y < 0
   ·have HR : Hid (R = false) := Lib.hid (by rw [← hd, (inB_false _ _).2 (.inl hy0)]; rfl)
    clear hd
    go_wp2_with fail
    go_quiet (fail)
    go_wp2_with fail
    go_ret
    exact ⟨by rw [HR.out]; rfl, (f0.trans HF.out (by simp)).drewN nq⟩
   ·by_cases hyn : (l.length : Int) ≤ y
    ·have HR : Hid (R = false) := Lib.hid (by rw [← hd, (inB_false _ _).2 (.inr ⟨by omega, hyn⟩)]; rfl)
     clear hd
     go_wp2_with fail
     go_quiet (fail)
     go_wp2_with fail
     go_ret
     exact ⟨by rw [HR.out]; rfl, (f0.trans HF.out (by simp)).drewN nq⟩
    ·have HD : Hid ((fs.drop (k + 1)).all (inB l.length) = R) := Lib.hid (by rw [← hd, (inB_iff _ _).2 ⟨by omega, by omega⟩, Bool.true_and])
     clear hd
     go_wp2_with fail
     go_quiet (fail)
     go_wp2_with fail
     go_roundg (fs.length - (k + 1))
     case rel => exact ⟨k + 1, rfl, by omega, by go_num, HD.out, HF.out.drewN nq⟩
     case measure => omega
  ·have i5 : ¬ (k : Int) < (fs.length : Int) := by omega
   have HR : Hid (R = true) := Lib.hid (by rw [← hd, List.drop_eq_nil_of_le (by omega)]; rfl)
   clear hd
   go_wp2_with fail
   go_ret
   exact ⟨by rw [HR.out]; rfl, f0.trans HF.out (by simp)⟩

/-- append(own, src...) where src is read, nil or not. -/
theorem wpl_app_from {w : World} {ops : Array Oper} {rest : List Oper} {o : Oper} {a : Act} {Q : Exit → Act → World → Prop} (hgd : o.guard = none) (s x : Operand)
  (ho : o.op = .call { callee := .builtin .append, args := #[s, x], argTypes := #[22, 22] })
  (B n N C : Nat) (v : Value) (xs : List Int) (hs : a.eval s = v) (hown : w.ownsRow B 3 1 v n (ints xs)) (hn : xs.length = n) (fa : Option Addr) (m c : Nat) (ys : List Int) (hx : a.eval x = .slice fa m c) (hm : ys.length = m)
  (hrd : Rd C w fa m c 1 (ints ys)) (hnil : fa = none → c = 0) (hN : n + m = N) (hb : N ≤ 1000000000) (hB : B ≤ w.heap.size)
  (h : ∀ a' cp w', w'.ownsRow B 3 1 (.slice a' N cp) N (ints (xs ++ ys)) → (∀ w0 : World, w0.heap.size ≤ B → Frm [] w0 w → Frm [] w0 w') → wpList Tryz.prog ops Q rest (a.put o.dst (.slice a' N cp)) w') : wpList Tryz.prog ops Q (o :: rest) a w := by
 cases fa with
 | none =>
  obtain rfl := hnil rfl
  have hm0 : m = 0 := by have := hrd.le; omega
  subst hm0
  obtain rfl : ys = [] := List.eq_nil_of_length_eq_zero hm
  rw [Nat.add_zero] at hN
  subst hN
  obtain ⟨i0, hi, hz0, hz1, hz2⟩ := info_parts infoInt
  obtain ⟨a', cp, rfl, _⟩ := owns_shape (ownsB_mono hown (Nat.zero_le _))
  refine wpList_append_own_none hgd s x 22 ho B 3 i0 1 Tryz.underlying22 hi _ n (ints xs) hs hown hx ?_
  exact h a' cp w (by rw [List.append_nil]; exact hown) (fun w0 _ hF => hF)
 | some ad =>
  refine wpl_app_int hgd s x ho B n N v xs hs hown hn ad m c ys hx hm (fun j u hj => ?_) hN hb hB (fun a' cp w' h1 h2 _ => h a' cp w' h1 h2)
  obtain ⟨b, o, e, _, hc⟩ := hrd.cell j u hj
  obtain rfl : ad = ⟨b, o, none⟩ := by simpa using e
  rw [show ((⟨b, o, none⟩ : Addr).add j) = ⟨b, o + j, none⟩ from by unfold Addr.add; split <;> simp_all]
  exact hc

end Go.Proofs.YtikpcipkkhmcfaaGreat

/- Contract of Reach of the reference. Printed by r2.py. -/
namespace Go.Proofs.YtikpcipkkhmcfaaGreat
open Go.RowKit

def ReachEnd (B : Nat) (l : Lts) (fs : List Int) (silent : Bool) (w' : World) (e : Ending) : Prop :=
 if validB l = true ∧ fs.all (inB l.length) = true then ∃ (a : Option Addr) (c : Nat) (vs : List Nat), e = .returned (.slice a vs.length c) ∧ w'.ownsRow B 3 1 (.slice a vs.length c) vs.length (ints (natI vs)) ∧ IsReach (Esel l silent) (fs.map Int.toNat) vs
 else e = .returned (.slice none 0 0)

theorem looseGo_sum (n : Nat) : ∀ (l : Lts) (c : Nat), looseGo n c l = true → c ≤ 262144 → c + (l.map List.length).sum ≤ 262144
 | [], _, _, h => by simpa using h
 | row :: r, c, h, hc => by
  simp only [looseGo, Bool.and_eq_true, decide_eq_true_eq] at h
  have := looseGo_sum n r _ h.2.2 h.1
  rw [List.map_cons, List.sum_cons]
  omega
theorem sumf_take (l : Lts) : ∀ k, k ≤ l.length → sumf (fun v => (l.getD v []).length) k = ((l.take k).map List.length).sum
 | 0, _ => by simp [sumf]
 | k + 1, h => by
  have hk : k < l.length := h
  rw [sumf, sumf_take l k (by omega), List.take_add_one, List.getElem?_eq_getElem hk, List.map_append, List.sum_append, List.getD_eq_getElem?_getD, List.getElem?_eq_getElem hk]
  simp
theorem total_few {l : Lts} (h : validB l = true) (silent : Bool) : sumf (fun v => (Esel l silent v).length) l.length ≤ 262144 := by
 simp only [validB, looseB, Bool.and_eq_true, decide_eq_true_eq] at h
 have h1 := looseGo_sum _ l 0 h.1.2 (by omega)
 have h2 := sumf_take l l.length (Nat.le_refl _)
 rw [List.take_length] at h2
 have h3 : sumf (fun v => (Esel l silent v).length) l.length ≤ sumf (fun v => (l.getD v []).length) l.length := sumf_le (fun v _ => by
  simp only [Esel, List.length_map]
  exact sel_len _ _)
 omega

def DRel (E : Nat → List Nat) (n : Nat) (fr : List Nat) (M gs : Nat) (w1 : World) (q : Nat) (s8 : Value) (wr : World) : Prop :=
 ∃ (seen : List Bool) (todo : List Nat) (a8 : Option Addr) (c8 : Nat), q = todo.length + wt E n seen ∧ todo.length + wt E n seen ≤ M ∧ s8 = .slice a8 todo.length c8 ∧ Dfs E n fr seen todo ∧ wr.ownsRow w1.heap.size 3 1 (.slice a8 todo.length c8) todo.length (ints (natI todo)) ∧ wr.ownsRow 0 4 1 (.slice (some ⟨gs, 0, none⟩) n n) n (bools seen) ∧ Frm [gs] w1 wr
def pushed (r : List Nat) (row : List Arc) (silent : Bool) (i : Nat) : List Nat := r ++ ((row.take i).filter (follows silent)).map fun a => a.2.toNat
theorem pushed_yes {r : List Nat} {row : List Arc} {silent : Bool} {i m : Nat} {e : Int} (h : row[i]? = some (e, (m : Int))) (hf : follows silent (e, (m : Int)) = true) : pushed r row silent i ++ [m] = pushed r row silent (i + 1) := by
 simp [pushed, List.take_add_one, h, List.filter_append, hf]
theorem pushed_no {r : List Nat} {row : List Arc} {silent : Bool} {i : Nat} {e t : Int} (h : row[i]? = some (e, t)) (hf : follows silent (e, t) = false) : pushed r row silent i = pushed r row silent (i + 1) := by
 simp [pushed, List.take_add_one, h, List.filter_append, hf]
theorem pushed_end {l : Lts} (hv : VLts l) {r : List Nat} {s : Nat} {row : List Arc} (h : l[s]? = some row) (silent : Bool) : pushed r row silent row.length = r ++ Esel l silent s := by
 have h1 : l.getD s [] = row := by rw [List.getD_eq_getElem?_getD, h]; rfl
 rw [pushed, List.take_length, Esel, h1, sel_filter (hv.row row (List.mem_of_getElem? h))]
theorem pushed_len (r : List Nat) (row : List Arc) (silent : Bool) (i : Nat) : (pushed r row silent i).length ≤ r.length + row.length := by
 have h1 := List.length_filter_le (follows silent) (row.take i)
 have h2 := List.length_take_le' i row
 rw [pushed, List.length_append, List.length_map]
 omega

set_option linter.unusedSimpArgs false in
set_option maxRecDepth 100000 in
set_option maxHeartbeats 4000000 in
theorem rreach_any (B0 : Nat) (a : Option Addr) (cap : Nat) (l : Lts) (fa : Option Addr) (fc : Nat) (fs : List Int) (silent : Bool) (w : World) (h : LAt B0 w a cap l) (hfr0 : Rd w.heap.size w fa fs.length fc 1 (ints fs)) (hnil : fa = none → fc = 0) (hfl : fs.length ≤ 100000) :
  Calls Tryz.prog 43 #[.agg #[.slice a l.length cap], .slice fa fs.length fc, .bool silent] w fun e w' => ReachEnd w.heap.size l fs silent w' e ∧ Frm [] w w' := by
 have f0 : Frm [] w (w.alloc (.cells #[.slice a l.length cap] 25)) := (Frm.refl [] w).alloc _
 have hcut0 := h.cut
 clear h
 have h := hcut0
 clear hcut0
 have hbox := box1 w (.slice a l.length cap) 25
 have HB := Lib.hid hbox
 have HL0 := Lib.hid (h.nil f0 rfl)
 have HFR0 := Lib.hid (hfr0.frm f0 (by simp))
 have hva := refValid_any w.heap.size a cap l _ (h.nil f0 rfl)
 have hl := h.lt
 have HNIL := Lib.hid hnil
 clear h hbox hfr0 hnil
 go_enter Tryz.func43, Tryz.ntmps43
 go_wp2_with fail
 refine hva.mono ?_
 rintro e1 w1 ⟨rfl, hf1⟩
 clear hva
 have F1 := f0.trans hf1 (by simp)
 have hb1 := (HB.out.frm hf1 (by simp)).cell (i := 0) rfl
 cases hv : validB l with
 | false =>
  have HR : Hid (ReachEnd w.heap.size l fs silent w1 (.returned (.slice none 0 0))) := Lib.hid (by rw [ReachEnd, if_neg (by rw [hv]; simp)])
  clear hv
  go_wp2_with fail
  go_ret
  exact ⟨HR.out, F1⟩
 | true =>
  have HVB := Lib.hid hv
  have HV := Lib.hid (vlts_of hv)
  have hfew := (vlts_of hv).few
  have i2 : (l.length : Int) ≤ 16384 := by omega
  have HF01 := Lib.hid hf1
  have hst := instates_any w.heap.size a cap l fa fc fs w1 (HL0.out.nil hf1 rfl) (HFR0.out.frm hf1 (by simp))
  clear hv hf1
  go_wp2_with fail
  refine hst.mono ?_
  rintro e2 w2 ⟨rfl, hf2⟩
  clear hst hb1
  have F2 := F1.trans hf2 (by simp)
  have HF02 := Lib.hid (HF01.out.trans hf2 (by simp))
  have hb2 := HF02.out.cell (HB.out.cell (i := 0) rfl) (by simp)
  clear hf2 F1
  cases hst : fs.all (inB l.length) with
  | false =>
   have HR : Hid (ReachEnd w.heap.size l fs silent w2 (.returned (.slice none 0 0))) := Lib.hid (by rw [ReachEnd, if_neg (by rw [hst]; simp)])
   clear hst
   go_wp2_with fail
   go_ret
   exact ⟨HR.out, F2⟩
  | true =>
   have HST := Lib.hid hst
   have HFW2 := Lib.hid F2
   have hsz2 := HF02.out.size
   simp only [World.alloc, Array.size_push] at hsz2
   clear hst F2
   go_wp2_with (first | (at_make; refine wpl_make_b _ rfl (.tmp 24) rfl _ l.length rfl rfl (by omega) ?_) | (at_make; fail))
   intro w3 hown3 hf3
   obtain ⟨gs, hgse⟩ : ∃ x, x = w2.heap.size := ⟨_, rfl⟩
   rw [← hgse] at hown3 ⊢
   have hb3 := hf3.cell hb2 (by simp)
   have HOWN3 := Lib.hid hown3
   have HF3 := Lib.hid hf3
   have hsz3 := hf3.size
   have hgs := (hown3.lt gs rfl).2
   have HFR3 := Lib.hid ((HFR0.out.frm HF02.out (by simp)).frm hf3 (by simp))
   have HGS := Lib.hid hgse
   have hgw : w.heap.size ≠ gs := by omega
   have hgs0 : w.heap.size ≤ gs := by omega
   clear hb2 hown3 hf3 hgse
   have hem : (w3.alloc (.cells #[] 3)).ownsRow w3.heap.size 3 1 (.slice (some ⟨w3.heap.size, 0, none⟩) 0 0) 0 (ints []) := World.ownsRow_made w3 #[] 0 (Nat.le_refl _) (by decide) rfl
   have HEM := Lib.hid hem
   clear hem
   go_wp2_with (first | (at_builtin; refine wpl_app_from rfl (.tmp 26) (.tmp 27) rfl w3.heap.size 0 fs.length w.heap.size (.slice (some ⟨w3.heap.size, 0, none⟩) 0 0) [] rfl HEM.out rfl fa fs.length fc fs rfl rfl (HFR3.out.frm ((Frm.refl [] w3).alloc _) (by simp)) HNIL.out (Nat.zero_add _) (by omega) (by simp) ?_) | (at_builtin; fail))
   intro a4 c4 w4 hown4 hf4
   have hfr4 : Frm [] w3 w4 := hf4 w3 (Nat.le_refl _) ((Frm.refl [] w3).alloc _)
   obtain ⟨E, hE⟩ : ∃ E, Esel l silent = E := ⟨_, rfl⟩
   obtain ⟨fr, hfrl⟩ : ∃ fr, fs.map Int.toNat = fr := ⟨_, rfl⟩
   have hfs : fs = natI fr := by
    rw [← hfrl, natI, List.map_map]
    refine (List.map_id fs).symm.trans (List.map_congr_left (fun x hx => ?_))
    have := (inB_iff _ _).1 (List.all_eq_true.1 HST.out x hx)
    simp only [Function.comp_apply, id]
    omega
   have hfrlt : ∀ v ∈ fr, v < l.length := by
    intro v hv
    rw [← hfrl] at hv
    obtain ⟨x, hx, rfl⟩ := List.mem_map.1 hv
    have := (inB_iff _ _).1 (List.all_eq_true.1 HST.out x hx)
    omega
   have hlen : fs.length = fr.length := by rw [hfs, natI_len]
   have hEe : ∀ a b, a < l.length → b ∈ E a → b < l.length := by rw [← hE]; exact esel_edge HV.out silent
   have hwt0 := wt_le (E := E) (n := l.length) (List.replicate l.length false)
   have htot : sumf (fun v => (E v).length) l.length ≤ 262144 := by rw [← hE]; exact total_few HVB.out silent
   have h0 : DRel E l.length fr (fr.length + 262144) gs w3 (fr.length + wt E l.length (List.replicate l.length false)) (.slice a4 fs.length c4) w4 := ⟨List.replicate l.length false, fr, a4, c4, rfl, by omega, by rw [hlen], Dfs.start hfrlt, by rw [hfs, natI_len] at hown4; exact hown4, ownsB_mono (own_frm_out HOWN3.out hfr4 (by simp)) (by omega), hfr4.mono (by simp)⟩
   have H0 := Lib.hid h0
   have HEE := Lib.hid hEe
   have HE := Lib.hid hE
   have HFRL := Lib.hid hfrl
   have HB3 := Lib.hid hb3
   have HL3 := Lib.hid ((HL0.out.nil HF02.out rfl).nil HF3.out rfl)
   have i3 : (fr.length : Int) ≤ 100000 := by omega
   clear hown4 hf4 hfr4 h0 hfs hfrlt hEe hwt0 htot hE hfrl hlen
   go_wp2_with fail
   go_loopg [8] (fr.length + wt E l.length (List.replicate l.length false)) (fun q s8 wr => DRel E l.length fr (fr.length + 262144) gs w3 q s8 wr)
   case atStart => exact H0.out
   case round =>
    obtain ⟨wq, hwqe⟩ : ∃ x, x = wr := ⟨wr, rfl⟩
    subst hwqe
    obtain ⟨seen, todo, a8, c8, rfl, hM, rfl, hdfs, hown8, hs8, hF8⟩ := hrel
    have HF8 := Lib.hid hF8
    have HS8 := Lib.hid hs8
    have hsz8 := hF8.size
    have cb := HF8.out.cell HB3.out (by simp; omega)
    clear hF8 hs8 hb3
    rcases List.eq_nil_or_concat todo with rfl | ⟨r, s, hcon⟩
    ·have HREACH := Lib.hid (trues_reach hdfs)
     have hsl := hdfs.len
     have hts := trues_len seen l.length
     clear hown8 hdfs hM
     simp only [List.length_nil] at *
     go_wp2_with fail
     go_loopg [11, 12] l.length (fun q s11 s12 wr => ∃ (k : Nat) (a11 : Option Addr) (c11 : Nat), q = l.length - k ∧ k ≤ l.length ∧ s11 = .slice a11 (trues seen k).length c11 ∧ s12 = .int .i64 (k : Int) ∧ wr.ownsRow wq.heap.size 3 1 (.slice a11 (trues seen k).length c11) (trues seen k).length (ints (natI (trues seen k))) ∧ Frm [] wq wr)
     case atStart => exact ⟨0, none, 0, rfl, Nat.zero_le _, rfl, rfl, World.ownsRow_nil _ _ _ _, Frm.refl _ _⟩
     case round =>
      obtain ⟨k, a11, c11, rfl, hk, rfl, rfl, hown, hF⟩ := hrel
      have HOWN := Lib.hid hown
      have HF := Lib.hid hF
      have hszr := hF.size
      have i6 : (0 : Int) ≤ (k : Int) := by omega
      have hrow := own_rowg2 (own_frm_out HS8.out hF (by simp))
      have htk := trues_len seen k
      clear hown hF
      by_cases hkl : k < l.length
      ·have i7 : (k : Int) < (l.length : Int) := by omega
       obtain ⟨b, hb⟩ : ∃ b, seen[k]? = some b := ⟨_, List.getElem?_eq_getElem (by omega)⟩
       have cs := hrow.cell (bools_get hb)
       have HBK := Lib.hid hb
       clear hb hrow
       cases b with
       | false =>
        have HT := Lib.hid (trues_no (seen := seen) (k := k) (by rw [HBK.out]; simp))
        go_wp2_with fail
        go_roundg (l.length - (k + 1))
        case rel => exact ⟨k + 1, a11, c11, rfl, hkl, by rw [HT.out], by go_num, by rw [HT.out]; exact HOWN.out, HF.out⟩
        case measure => omega
       | true =>
        have HT := Lib.hid (trues_yes HBK.out)
        have i8 : ((trues seen k).length : Int) ≤ 16384 := by omega
        go_wp2_with (first | (at_builtin; refine wpl_app_int rfl (.tmp 96) (.tmp 98) rfl wq.heap.size (trues seen k).length ((trues seen k).length + 1) (.slice a11 (trues seen k).length c11) (natI (trues seen k)) rfl (HOWN.out.alloc _) (natI_len _) ⟨wr.heap.size, 0, none⟩ 1 1 [(k : Int)] rfl rfl (cells_new_at _ (k : Int) _ _ rfl) rfl (by omega) (by simp; omega) ?_) | (at_builtin; fail))
        intro a9 c9 w9 hown9 hf9 _
        have hown9' : w9.ownsRow wq.heap.size 3 1 (.slice a9 (trues seen (k + 1)).length c9) (trues seen (k + 1)).length (ints (natI (trues seen (k + 1)))) := by
         rw [HT.out, List.length_append, natI, List.map_append]
         exact hown9
        have HOWN9 := Lib.hid hown9'
        have HF9 := Lib.hid (hf9 wq (Nat.le_refl _) (HF.out.alloc _))
        clear hown9 hf9 hown9'
        go_wp2_with fail
        go_roundg (l.length - (k + 1))
        case rel => exact ⟨k + 1, a9, c9, rfl, hkl, by rw [HT.out, List.length_append]; rfl, by go_num, HOWN9.out, HF9.out⟩
        case measure => omega
      ·have i7 : ¬ (k : Int) < (l.length : Int) := by omega
       have hkk : k = l.length := by omega
       have hend : ReachEnd w.heap.size l fs silent wr (.returned (.slice a11 (trues seen k).length c11)) := by
        rw [ReachEnd, if_pos ⟨HVB.out, HST.out⟩]
        refine ⟨a11, c11, trues seen k, rfl, ownsB_mono HOWN.out (by omega), ?_⟩
        rw [hkk, HE.out, HFRL.out]
        exact HREACH.out
       have HEND := Lib.hid hend
       have HFIN := Lib.hid (((HFW2.out.trans HF3.out (by simp)).trans HF8.out (by simp; omega)).trans HF.out (by simp))
       clear hend hkk
       go_wp2_with fail
       go_ret
       exact ⟨HEND.out, HFIN.out⟩
    ·rw [List.concat_eq_append] at hcon
     subst hcon
     have hsn : s < l.length := hdfs.lt s (by simp)
     have hlen8 : (r ++ [s]).length = r.length + 1 := by simp
     rw [hlen8] at hM hown8
     try rw [hlen8]
     obtain ⟨g8, cc8, he8, _, _, hr8⟩ := owns_some (ownsB_mono hown8 (Nat.zero_le _)) (by omega)
     obtain ⟨rfl, rfl⟩ : a8 = some ⟨g8, 0, none⟩ ∧ c8 = cc8 := by simpa using he8
     have cs8 := hr8.cell (i := r.length) (ints_get (x := (s : Int)) (by simp [natI]))
     have HOWN8 := Lib.hid hown8
     have HDFS := Lib.hid hdfs
     have hwts := wt_le (E := E) (n := l.length) seen
     have hsl := hdfs.len
     obtain ⟨b, hb⟩ : ∃ b, seen[s]? = some b := ⟨_, List.getElem?_eq_getElem (by omega)⟩
     have csn := (own_rowg2 HS8.out).cell (bools_get hb)
     have zsn := (own_rowg2 HS8.out).frozen s
     have HBS := Lib.hid hb
     have i6 : (0 : Int) ≤ (s : Int) := by omega
     have i7 : (s : Int) < (l.length : Int) := by omega
     have i9 : (r.length : Int) ≤ 400000 := by omega
     have hpre := owns_prefix (m := r.length) HOWN8.out (by omega) (by simp)
     have hpre' : wq.ownsRow w3.heap.size 3 1 (.slice (some ⟨g8, 0, none⟩) r.length c8) r.length (ints (natI r)) := by
      have e9 : (ints (natI (r ++ [s]))).take (r.length * 1) = ints (natI r) := by simp [ints, natI]
      rw [e9] at hpre
      exact hpre
     have HPRE := Lib.hid hpre'
     clear hdfs hown8 hlen8 he8 hr8 hb hpre hpre'
     cases b with
     | true =>
      have HD := Lib.hid (HDFS.out.skip HBS.out)
      go_wp2_with fail
      go_roundg (r.length + wt E l.length seen)
      case rel =>
       exact ⟨seen, r, _, c8, rfl, by omega, rfl, HD.out, HPRE.out, HS8.out, HF8.out⟩
      case measure => simp
     | false =>
      have HD := Lib.hid (HDFS.out.visit HEE.out)
      have hwv := wt_visit (E := E) (seen := seen) hsn hsl (by rw [HBS.out]; simp)
      have HWV := Lib.hid hwv
      obtain ⟨row, hrow⟩ : ∃ row, l[s]? = some row := ⟨_, List.getElem?_eq_getElem hsn⟩
      have hfewr := (HV.out.row row (List.mem_of_getElem? hrow)).few
      have HROW := Lib.hid hrow
      obtain ⟨bl, ol, ra, rc, rfl, hbl, q1, hrr⟩ := HL3.out.cell s row hrow
      have hs9 := ownsB_setCellG HS8.out (g := gs) rfl s (.bool true)
      rw [← bools_set] at hs9
      have HS9 := Lib.hid hs9
      have hf9 : Frm [gs] w3 (wq.setCell ⟨gs, s, none⟩ (.bool true)) := HF8.out.setCell (p := ⟨gs, s, none⟩) (.inl (by simp)) _
      have HF9 := Lib.hid hf9
      have HOWN9 := Lib.hid (own_set (p := gs) (i := s) (u := .bool true) HPRE.out (by
       intro e9
       have := (HPRE.out.lt g8 rfl).1
       omega))
      have q2 := HF8.out.cell q1 (by simp; omega)
      have nq2 := World.block_lt_of_cell? _ _ q2
      have hbg : bl ≠ gs := by omega
      have Q1 := Lib.hid q1
      have HRR := Lib.hid hrr
      have i10 : (row.length : Int) ≤ 262144 := by omega
      simp only at nq2
      clear hwv hrow hs9 hf9 q1 hrr
      go_wp2_with fail
      go_loopg [8, 10] row.length (fun q s8 s10 wx => ∃ (i : Nat) (todo2 : List Nat) (a9 : Option Addr) (c9 : Nat), q = row.length - i ∧ i ≤ row.length ∧ s10 = .int .i64 (i : Int) ∧ todo2 = pushed r row silent i ∧ s8 = .slice a9 todo2.length c9 ∧ wx.ownsRow w3.heap.size 3 1 (.slice a9 todo2.length c9) todo2.length (ints (natI todo2)) ∧ wx.ownsRow 0 4 1 (.slice (some ⟨gs, 0, none⟩) l.length l.length) l.length (bools (seen.set s true)) ∧ Frm [gs] w3 wx)
      case atStart => exact ⟨0, r, some ⟨g8, 0, none⟩, c8, rfl, Nat.zero_le _, rfl, by simp [pushed], rfl, HOWN9.out, HS9.out, HF9.out⟩
      case round =>
       obtain ⟨wx, hwxe⟩ : ∃ x, x = wr := ⟨wr, rfl⟩
       subst hwxe
       obtain ⟨i, todo2, a9, c9, rfl, hi, rfl, htodo, rfl, hown2, hs2, hF2⟩ := hrel
       have HTODO := Lib.hid htodo
       have HOWN2 := Lib.hid hown2
       have HS2 := Lib.hid hs2
       have HF2 := Lib.hid hF2
       have hszx := hF2.size
       have ht2 := pushed_len r row silent i
       rw [← htodo] at ht2
       have cb2 := hF2.cell HB3.out (by simp; omega)
       have ql := hF2.cell Q1.out (by simp; omega)
       have nl := World.block_lt_of_cell? _ _ ql
       have i11 : (0 : Int) ≤ (i : Int) := by omega
       simp only at nl
       clear htodo hown2 hs2 hF2
       by_cases hil : i < row.length
       ·have i12 : (i : Int) < (row.length : Int) := by omega
        obtain ⟨⟨e, t⟩, harc⟩ : ∃ y, row[i]? = some y := ⟨_, List.getElem?_eq_getElem hil⟩
        have hok := (HV.out.row row (List.mem_of_getElem? HROW.out)).ok e t (List.mem_of_getElem? harc)
        obtain ⟨m, rfl⟩ : ∃ m : Nat, t = (m : Int) := ⟨t.toNat, by omega⟩
        obtain ⟨b1, o1, rfl, hb1, p1, p2⟩ := HRR.out.2.2.2 i e m harc
        have d1 := HF2.out.cell p1 (by simp; omega)
        have d2 := HF2.out.cell p2 (by simp; omega)
        have n1 := World.block_lt_of_cell? _ _ d1
        simp only at n1
        have HARC := Lib.hid harc
        have i13 : (todo2.length : Int) ≤ 700000 := by omega
        clear p1 p2 harc hok
        cases silent with
        | false =>
         have HYES : Hid (todo2 ++ [m] = pushed r row false (i + 1)) := Lib.hid (by rw [HTODO.out]; exact pushed_yes HARC.out (by simp [follows]))
         go_wp2_with (first | (at_builtin; refine wpl_app_at rfl (.tmp 74) (.tmp 84) 22 3 (.int .i64 0) 1 8 Tryz.underlying22 infoInt rfl (by decide) rfl w3.heap.size todo2.length (todo2.length + 1) (.slice a9 todo2.length c9) (ints (natI todo2)) rfl (HOWN2.out.alloc _) ⟨wx.heap.size, 0, none⟩ 1 [.int .i64 (m : Int)] rfl rfl (cells_new_at _ (m : Int) _ _ rfl) (by simp [Value.oneCell']) rfl (by omega) (by decide) (by simp; omega) ?_) | (at_builtin; fail))
         intro g9 cp9 w9 hown9 hf9 hg9
         have hnb : ∀ q ∈ (Value.slice a9 todo2.length c9).ownBlock.toList, w3.heap.size ≤ q := by
          intro q hq
          simp only [Option.mem_toList] at hq
          exact (HOWN2.out.lt q hq).1
         have hown9' : w9.ownsRow w3.heap.size 3 1 (.slice (some ⟨g9, 0, none⟩) (todo2.length + 1) cp9) (todo2.length + 1) (ints (natI (todo2 ++ [m]))) := by
          rw [natI, List.map_append, ints_app]
          exact hown9
         have HOWN9 := Lib.hid hown9'
         have HS9 := Lib.hid (ownsB_frm (HS2.out.alloc (.cells #[.int .i64 (m : Int)] 3)) hf9 (by
          intro q hq hm9
          have h1 := hnb q hm9
          have h2 : q = gs := by simpa [Value.ownBlock] using hq.symm
          omega))
         have HF9 := Lib.hid (((HF2.out.alloc (.cells #[.int .i64 (m : Int)] 3)).trans hf9 (fun q hq => .inr (hnb q hq))))
         clear hown9 hf9 hg9 hown9' hnb
         go_wp2_with fail
         go_roundg (row.length - (i + 1))
         case rel => exact ⟨i + 1, todo2 ++ [m], some ⟨g9, 0, none⟩, cp9, rfl, by omega, by go_num, HYES.out, by rw [List.length_append]; rfl, by rw [List.length_append]; exact HOWN9.out, HS9.out, HF9.out⟩
         case measure => omega
        | true =>
         by_cases he0 : e = 0
         ·subst he0
          have HYES : Hid (todo2 ++ [m] = pushed r row true (i + 1)) := Lib.hid (by rw [HTODO.out]; exact pushed_yes HARC.out (by simp [follows]))
          go_wp2_with (first | (at_builtin; refine wpl_app_at rfl (.tmp 74) (.tmp 84) 22 3 (.int .i64 0) 1 8 Tryz.underlying22 infoInt rfl (by decide) rfl w3.heap.size todo2.length (todo2.length + 1) (.slice a9 todo2.length c9) (ints (natI todo2)) rfl (HOWN2.out.alloc _) ⟨wx.heap.size, 0, none⟩ 1 [.int .i64 (m : Int)] rfl rfl (cells_new_at _ (m : Int) _ _ rfl) (by simp [Value.oneCell']) rfl (by omega) (by decide) (by simp; omega) ?_) | (at_builtin; fail))
          intro g9 cp9 w9 hown9 hf9 hg9
          have hnb : ∀ q ∈ (Value.slice a9 todo2.length c9).ownBlock.toList, w3.heap.size ≤ q := by
           intro q hq
           simp only [Option.mem_toList] at hq
           exact (HOWN2.out.lt q hq).1
          have hown9' : w9.ownsRow w3.heap.size 3 1 (.slice (some ⟨g9, 0, none⟩) (todo2.length + 1) cp9) (todo2.length + 1) (ints (natI (todo2 ++ [m]))) := by
           rw [natI, List.map_append, ints_app]
           exact hown9
          have HOWN9 := Lib.hid hown9'
          have HS9 := Lib.hid (ownsB_frm (HS2.out.alloc (.cells #[.int .i64 (m : Int)] 3)) hf9 (by
           intro q hq hm9
           have h1 := hnb q hm9
           have h2 : q = gs := by simpa [Value.ownBlock] using hq.symm
           omega))
          have HF9 := Lib.hid (((HF2.out.alloc (.cells #[.int .i64 (m : Int)] 3)).trans hf9 (fun q hq => .inr (hnb q hq))))
          clear hown9 hf9 hg9 hown9' hnb
          go_wp2_with fail
          go_roundg (row.length - (i + 1))
          case rel => exact ⟨i + 1, todo2 ++ [m], some ⟨g9, 0, none⟩, cp9, rfl, by omega, by go_num, HYES.out, by rw [List.length_append]; rfl, by rw [List.length_append]; exact HOWN9.out, HS9.out, HF9.out⟩
          case measure => omega
         ·have HNO : Hid (todo2 = pushed r row true (i + 1)) := Lib.hid (by rw [HTODO.out]; exact pushed_no HARC.out (by simp [follows, he0]))
          have heb : (e == 0) = false := by simpa using he0
          go_wp2_with fail
          go_roundg (row.length - (i + 1))
          case rel => exact ⟨i + 1, todo2, a9, c9, rfl, by omega, by go_num, HNO.out, rfl, HOWN2.out, HS2.out, HF2.out⟩
          case measure => omega
       ·have hin : i = row.length := by omega
        have htd : todo2 = r ++ E s := by rw [HTODO.out, hin, pushed_end HV.out HROW.out, HE.out]
        have HTD := Lib.hid htd
        have i12 : ¬ (i : Int) < (row.length : Int) := by omega
        have hmes : todo2.length + wt E l.length (seen.set s true) = r.length + wt E l.length seen := by
         rw [htd, List.length_append]
         have := HWV.out
         omega
        have HMES := Lib.hid hmes
        clear hin htd hmes
        go_wp2_with fail
        go_roundg (todo2.length + wt E l.length (seen.set s true))
        case rel =>
         exact ⟨seen.set s true, todo2, a9, c9, rfl, by rw [HMES.out]; omega, rfl, by rw [HTD.out]; exact HD.out, HOWN2.out, HS2.out, HF2.out⟩
        case measure => rw [HMES.out]; simp

end Go.Proofs.YtikpcipkkhmcfaaGreat

/- Contract of Components of the reference. -/
namespace Go.Proofs.YtikpcipkkhmcfaaGreat
open Go.RowKit

theorem rreach_one (B0 : Nat) (a : Option Addr) (cap : Nat) (l : Lts) (k g : Nat) (silent : Bool) (w : World) (h : LAt B0 w a cap l) (hv : validB l = true) (hk : k < l.length) (hg : w.cell? ⟨g, 0, none⟩ = some (.int .i64 (k : Int))) :
  Calls Tryz.prog 43 #[.agg #[.slice a l.length cap], .slice (some ⟨g, 0, none⟩) 1 1, .bool silent] w fun e w' => (∃ (g' c : Nat) (vs : List Nat), e = .returned (.slice (some ⟨g', 0, none⟩) vs.length c) ∧ w'.ownsRow w.heap.size 3 1 (.slice (some ⟨g', 0, none⟩) vs.length c) vs.length (ints (natI vs)) ∧ IsReach (Esel l silent) [k] vs) ∧ Frm [] w w' := by
 have hrd : Rd w.heap.size w (some ⟨g, 0, none⟩) [(k : Int)].length 1 1 (ints [(k : Int)]) := ⟨rfl, Nat.le_refl _, by decide, fun i u hu => by
  cases i with
  | zero =>
   simp [ints] at hu
   subst hu
   exact ⟨g, 0, rfl, World.block_lt_of_cell? _ _ hg, hg⟩
  | succ i => simp [ints] at hu⟩
 refine (rreach_any B0 a cap l (some ⟨g, 0, none⟩) 1 [(k : Int)] silent w h hrd (fun e => by cases e) (by simp)).mono ?_
 rintro e w' ⟨h1, hf⟩
 rw [ReachEnd, if_pos ⟨hv, by rw [List.all_cons, (inB_iff _ _).2 ⟨by omega, by omega⟩]; rfl⟩] at h1
 obtain ⟨a', c, vs, he, hown, hr⟩ := h1
 have hr' : IsReach (Esel l silent) [k] vs := by simpa using hr
 have hmem : k ∈ vs := (hr'.mem k).2 ⟨k, List.mem_singleton.2 rfl, .refl k⟩
 have hpos : 0 < vs.length := List.length_pos_of_mem hmem
 obtain ⟨g', c', e1, _⟩ := owns_some (ownsB_mono hown (Nat.zero_le _)) hpos
 obtain ⟨rfl, rfl⟩ : a' = some ⟨g', 0, none⟩ ∧ c = c' := by simpa using e1
 exact ⟨⟨g', c, vs, he, hown, hr'⟩, hf⟩

/-- Components below k are settled. -/
structure CompTo (E : Nat → List Nat) (n : Nat) (out : List Int) (k : Nat) : Prop where
 len : out.length = n
 own : ∀ v, v < k → ∃ m : Nat, Tj.ix out v = m ∧ m < n ∧ Path E v m ∧ Path E m v ∧ ∀ u, Path E v u → Path E u v → m ≤ u
theorem CompTo.comp {E : Nat → List Nat} {n : Nat} {out : List Int} (h : CompTo E n out n) : Tj.IsComp E n out :=
 ⟨h.len, fun v hv => by
  obtain ⟨m, h1, h2, h3, h4, _⟩ := h.own v hv
  exact ⟨m, h1, h2, h3, h4⟩, fun v u hv h1 h2 => by
  obtain ⟨m, e, _, _, _, hm⟩ := h.own v hv
  have := hm u h1 h2
  omega⟩
theorem CompTo.keep {E : Nat → List Nat} {n : Nat} {out : List Int} {k : Nat} (h : CompTo E n out k) (hk : k < n) (x : Int) : CompTo E n (out.set k x) k :=
 ⟨by rw [List.length_set]; exact h.len, fun v hv => by
  obtain ⟨m, h1, h2⟩ := h.own v hv
  exact ⟨m, by rw [Tj.ix_set _ _ _ _ (by rw [h.len]; exact hk), if_neg (by omega)]; exact h1, h2⟩⟩
/-- Within the round of state k: the least of those seen. -/
structure LeastTo (E : Nat → List Nat) (n : Nat) (k : Nat) (vs : List Nat) (j m : Nat) : Prop where
 le : m ≤ k
 fw : Path E k m
 bw : Path E m k
 least : ∀ u ∈ vs.take j, Path E u k → m ≤ u
theorem LeastTo.start (E : Nat → List Nat) (n k : Nat) (vs : List Nat) : LeastTo E n k vs 0 k := ⟨Nat.le_refl _, .refl k, .refl k, fun u hu => by simp at hu⟩
theorem LeastTo.next {E : Nat → List Nat} {n k : Nat} {vs : List Nat} {j m t : Nat} (h : LeastTo E n k vs j m) (ht : vs[j]? = some t) (hle : ¬ Path E t k ∨ m ≤ t) : LeastTo E n k vs (j + 1) m :=
 ⟨h.le, h.fw, h.bw, fun u hu hp => by
  rw [List.take_add_one, ht, Option.toList_some] at hu
  rcases List.mem_append.1 hu with hu | hu
  ·exact h.least u hu hp
  ·rw [List.mem_singleton] at hu
   subst hu
   exact hle.elim (fun hn => absurd hp hn) id⟩
theorem LeastTo.take {E : Nat → List Nat} {n k : Nat} {vs : List Nat} {j m t : Nat} (h : LeastTo E n k vs j m) (hr : IsReach E [k] vs) (ht : vs[j]? = some t) (hp : Path E t k) (hlt : t < m) : LeastTo E n k vs (j + 1) t := by
 have hfw : Path E k t := by
  obtain ⟨s, hs, hq⟩ := (hr.mem t).1 (List.mem_of_getElem? ht)
  rw [List.mem_singleton] at hs
  rw [← hs]
  exact hq
 refine ⟨by have := h.le; omega, hfw, hp, fun u hu hq => ?_⟩
 rw [List.take_add_one, ht, Option.toList_some] at hu
 rcases List.mem_append.1 hu with hu | hu
 ·have := h.least u hu hq; omega
 ·rw [List.mem_singleton] at hu; omega
theorem CompTo.next {E : Nat → List Nat} {n : Nat} {out : List Int} {k m : Nat} {vs : List Nat} (h : CompTo E n out k) (hk : k < n) (hm : LeastTo E n k vs vs.length m) (hr : IsReach E [k] vs) (ho : Tj.ix out k = m) : CompTo E n out (k + 1) :=
 ⟨h.len, fun v hv => by
  by_cases hvk : v < k
  ·exact h.own v hvk
  ·obtain rfl : v = k := by omega
   refine ⟨m, ho, by have := hm.le; omega, hm.fw, hm.bw, fun u h1 h2 => hm.least u ?_ h2⟩
   rw [List.take_length]
   exact (hr.mem u).2 ⟨v, List.mem_singleton.2 rfl, h1⟩⟩

/-- Rows of what is reached from each state below k. -/
def ReachRows (E : Nat → List Nat) (n g : Nat) (k : Nat) (w : World) : Prop :=
 (∃ xs : List Value, w.ownsRow 0 22 1 (.slice (some ⟨g, 0, none⟩) n n) n xs) ∧
 ∀ i, i < k → ∃ (g' c : Nat) (vs : List Nat), w.cell? ⟨g, i, none⟩ = some (.slice (some ⟨g', 0, none⟩) vs.length c) ∧ w.ownsRow (g + 1) 3 1 (.slice (some ⟨g', 0, none⟩) vs.length c) vs.length (ints (natI vs)) ∧ IsReach E [i] vs
theorem ReachRows.frm {E : Nat → List Nat} {n g k : Nat} {fp : List Nat} {w w' : World} (h : ReachRows E n g k w) (hf : Frm fp w w') (hn : ∀ q ∈ fp, w.heap.size ≤ q) : ReachRows E n g k w' := by
 obtain ⟨⟨xs, h1⟩, h2⟩ := h
 have key : ∀ q, q < w.heap.size → q ∉ fp := fun q hq hm => by have := hn q hm; omega
 refine ⟨⟨xs, own_frm_out h1 hf (key g (h1.lt g rfl).2)⟩, fun i hi => ?_⟩
 obtain ⟨g', c, vs, h3, h4, h5⟩ := h2 i hi
 exact ⟨g', c, vs, hf.cell h3 (key g (h1.lt g rfl).2), own_frm_out h4 hf (key g' (h4.lt g' rfl).2), h5⟩
theorem ReachRows.nil {E : Nat → List Nat} {n g k : Nat} {w w' : World} (h : ReachRows E n g k w) (hf : Frm [] w w') : ReachRows E n g k w' := h.frm hf (by simp)
theorem ReachRows.put {E : Nat → List Nat} {n g k : Nat} {w : World} {g' c : Nat} {vs : List Nat} (h : ReachRows E n g k w) (hk : k < n) (h4 : w.ownsRow (g + 1) 3 1 (.slice (some ⟨g', 0, none⟩) vs.length c) vs.length (ints (natI vs))) (h5 : IsReach E [k] vs) :
  ReachRows E n g (k + 1) (w.setCell ⟨g, k, none⟩ (.slice (some ⟨g', 0, none⟩) vs.length c)) := by
 obtain ⟨⟨xs, h1⟩, h2⟩ := h
 have hxl : xs.length = n := by have := h1.1; omega
 have hset := ownsB_setCellG h1 (g := g) rfl k (.slice (some ⟨g', 0, none⟩) vs.length c)
 refine ⟨⟨_, hset⟩, fun i hi => ?_⟩
 by_cases hik : i < k
 ·obtain ⟨g2, c2, vs2, h6, h7, h8⟩ := h2 i hik
  refine ⟨g2, c2, vs2, ?_, own_set h7 (by have := (h7.lt g2 rfl).1; omega), h8⟩
  refine Eq.trans ?_ h6
  apply World.cell?_setCell_other
  intro e
  have e9 : k = i := congrArg Addr.off e
  omega
 ·obtain rfl : i = k := by omega
  refine ⟨g', c, vs, (own_rowg2 hset).cell (by rw [List.getElem?_set_self (by omega)]), own_set h4 (by have := (h4.lt g' rfl).1; omega), h5⟩

theorem has_path {E : Nat → List Nat} {t k : Nat} {vs : List Nat} (h : IsReach E [t] vs) : hasB (natI vs) (k : Int) = true ↔ Path E t k := by
 rw [hasB_iff, natI, List.mem_map]
 constructor
 ·rintro ⟨x, hx, he⟩
  obtain rfl : x = k := by omega
  obtain ⟨s, hs, hp⟩ := (h.mem x).1 hx
  rw [List.mem_singleton] at hs
  rw [← hs]
  exact hp
 ·intro hp
  exact ⟨k, (h.mem k).2 ⟨t, List.mem_singleton.2 rfl, hp⟩, rfl⟩

end Go.Proofs.YtikpcipkkhmcfaaGreat

/- Contract of Components of the reference: the walk. -/
namespace Go.Proofs.YtikpcipkkhmcfaaGreat
open Go.RowKit

end Go.Proofs.YtikpcipkkhmcfaaGreat

/- Contracts of graph.states and graph.Reach. -/
namespace Go.Proofs.YtikpcipkkhmcfaaGreat
open Go.RowKit

end Go.Proofs.YtikpcipkkhmcfaaGreat

/- Contract of graph.Distances. -/
namespace Go.Proofs.YtikpcipkkhmcfaaGreat
open Go.RowKit

theorem rd_keep {fp : List Nat} {w w' : World} {B n c : Nat} {a : Option Addr} {xs : List Value} (h : w.ownsRow B 3 1 (.slice a n c) n xs) (hf : Frm fp w w') (hn : ∀ k ∈ fp, k < B) : Rd w.heap.size w' a n c 1 xs := by
 have hk : ∀ q, (Value.slice a n c).ownBlock = some q → q ∉ fp := fun q hq hm => by
  have := (h.lt q hq).1
  have := hn q hm
  omega
 have h1 := rd_of_owns (ownsB_frm h hf hk) (Nat.le_refl _)
 refine ⟨h1.len, h1.le, h1.max, fun i u hu => ?_⟩
 obtain ⟨b, o, ha, _, hc⟩ := h1.cell i u hu
 exact ⟨b, o, ha, (h.lt b (by rw [ha]; rfl)).2, hc⟩

end Go.Proofs.YtikpcipkkhmcfaaGreat

/- Contract of Distances of the reference. -/
namespace Go.Proofs.YtikpcipkkhmcfaaGreat
open Go.RowKit

theorem addI_asc : ∀ (r : List Int) (x : Int), r.Pairwise (· < ·) → (addI r x).Pairwise (· < ·)
 | [], x, _ => by rw [addI_nil]; simp
 | a :: r, x, h => by
  have h1 := List.pairwise_cons.1 h
  rw [addI_cons]
  split
  ·refine List.pairwise_cons.2 ⟨fun y hy => ?_, addI_asc r x h1.2⟩
   rcases (mem_addI r x y).1 hy with rfl | hy
   ·assumption
   ·exact h1.1 y hy
  ·split
   ·exact h
   ·refine List.pairwise_cons.2 ⟨fun y hy => ?_, h⟩
    rcases List.mem_cons.1 hy with rfl | hy
    ·omega
    ·have := h1.1 y hy; omega
/-- Add to a list of states. -/
theorem add_nat {nx : List Nat} {m : Nat} (ha : nx.Pairwise (· < ·)) : ∃ nx2 : List Nat, addI (natI nx) (m : Int) = natI nx2 ∧ nx2.Pairwise (· < ·) ∧ ∀ v, v ∈ nx2 ↔ v = m ∨ v ∈ nx := by
 have hint : (natI nx).Pairwise (· < ·) := List.pairwise_map.2 (ha.imp (fun h => by omega))
 have hasc := addI_asc (natI nx) (m : Int) hint
 have hmem : ∀ y, y ∈ addI (natI nx) (m : Int) ↔ y = (m : Int) ∨ ∃ v ∈ nx, (v : Int) = y := fun y => by
  rw [mem_addI, natI, List.mem_map]
 obtain ⟨ys, hys⟩ : ∃ ys, addI (natI nx) (m : Int) = ys := ⟨_, rfl⟩
 rw [hys] at hasc hmem ⊢
 have hpos : ∀ y ∈ ys, ∃ v : Nat, y = (v : Int) := fun y hy => by
  rcases (hmem y).1 hy with h | ⟨v, _, h⟩
  ·exact ⟨m, h⟩
  ·exact ⟨v, h.symm⟩
 have hnat : ys = natI (ys.map Int.toNat) := by
  rw [natI, List.map_map]
  refine (List.map_id ys).symm.trans (List.map_congr_left (fun x hx => ?_))
  obtain ⟨v, rfl⟩ := hpos x hx
  simp
 refine ⟨ys.map Int.toNat, hnat, List.pairwise_map.2 (hasc.imp_of_mem (fun {x y} hx hy hxy => ?_)), fun v => ?_⟩
 ·obtain ⟨u, rfl⟩ := hpos x hx
  obtain ⟨v, rfl⟩ := hpos y hy
  simp
  omega
 ·rw [List.mem_map]
  constructor
  ·rintro ⟨x, hx, rfl⟩
   rcases (hmem x).1 hx with h | ⟨u, hu, h⟩
   ·left; omega
   ·right; rw [← h]; simpa using hu
  ·rintro (rfl | hv)
   ·exact ⟨_, (hmem _).2 (.inl rfl), by simp⟩
   ·exact ⟨(v : Int), (hmem _).2 (.inr ⟨v, hv, rfl⟩), by simp⟩
theorem asc_few {nx : List Nat} {n : Nat} (ha : nx.Pairwise (· < ·)) (h : ∀ v ∈ nx, v < n) : nx.length ≤ n := by
 have hnd : nx.Nodup := ha.imp (fun hab => Nat.ne_of_lt hab)
 have := hnd.length_le_of_subset (l₂ := List.range n) (fun v hv => List.mem_range.2 (h v hv))
 simpa using this
theorem own_nilcap {w : World} {B n c : Nat} {xs : List Value} {a : Option Addr} (h : w.ownsRow B 3 1 (.slice a n c) n xs) (ha : a = none) : c = 0 := by
 subst ha
 rcases h.2 with ⟨h0, _⟩ | ⟨g', cp', cur, h0, _⟩
 ·cases h0; rfl
 ·cases h0

/-- The states that are still new, in ascending order. -/
def freshL (out : List Int) (rs : List Nat) : List Nat := rs.filter fun v => decide (Tj.ix out v < 0)
theorem mem_fresh {out : List Int} {rs : List Nat} {v : Nat} : v ∈ freshL out rs ↔ v ∈ rs ∧ Tj.ix out v < 0 := by simp [freshL]
theorem Part.all {out o : List Int} {d k s : Nat} {rs : List Nat} (h : Part out o d ((freshL out rs).take k) ((freshL out rs).take k)) (hn : (freshL out rs).Nodup) (hs : (freshL out rs)[k]? = some s) (hl : s < out.length) : Part out (o.set s (d : Int)) d ((freshL out rs).take (k + 1)) ((freshL out rs).take (k + 1)) := by
 have htk : (freshL out rs).take (k + 1) = (freshL out rs).take k ++ [s] := by rw [List.take_add_one, hs]; rfl
 have hnew : s ∉ (freshL out rs).take k := by
  intro hm
  have h1 : ((freshL out rs).take (k + 1)).Nodup := List.Nodup.sublist (List.take_sublist _ _) hn
  rw [htk, List.nodup_append] at h1
  exact h1.2.2 s hm s (by simp) rfl
 have hneg := (mem_fresh.1 (List.mem_of_getElem? hs)).2
 rw [htk]
 refine h.yes hl ?_
 rw [h.ix s, if_neg (fun h9 => hnew h9.1)]
 exact hneg

end Go.Proofs.YtikpcipkkhmcfaaGreat

/- Plain: the targets of an event, the states behind an event. -/
namespace Go.Proofs.YtikpcipkkhmcfaaGreat
open Go.RowKit

def Aim (l : Lts) (e : Int) (s : Nat) : List Nat := ((l.getD s []).filter fun a => decide (a.1 = e)).map fun a => a.2.toNat
theorem mem_aim {l : Lts} {e : Int} {s : Nat} {row : List Arc} (h : l[s]? = some row) {t : Nat} : t ∈ Aim l e s ↔ ∃ a ∈ row, a.1 = e ∧ a.2.toNat = t := by
 have : l.getD s [] = row := by rw [List.getD_eq_getElem?_getD, h]; rfl
 simp only [Aim, this, List.mem_map, List.mem_filter, decide_eq_true_eq, and_assoc]
theorem aim_edge {l : Lts} (hv : VLts l) {e : Int} : ∀ a b, a < l.length → b ∈ Aim l e a → b < l.length := by
 intro a b ha hb
 obtain ⟨row, hrow⟩ : ∃ row, l[a]? = some row := ⟨_, List.getElem?_eq_getElem ha⟩
 obtain ⟨y, hy, _, rfl⟩ := (mem_aim hrow).1 hb
 obtain ⟨j, hj⟩ := List.getElem?_of_mem hy
 have := (hv.row row (List.mem_of_getElem? hrow)).ok y.1 y.2 (List.mem_of_getElem? hj)
 omega
structure IsAim (l : Lts) (e : Int) (fr vs : List Nat) : Prop where
 asc : vs.Pairwise (· < ·)
 mem : ∀ v, v ∈ vs ↔ ∃ s ∈ fr, v ∈ Aim l e s
theorem IsAim.unique {l : Lts} {e : Int} {fr a b : List Nat} (ha : IsAim l e fr a) (hb : IsAim l e fr b) : a = b :=
 asc_unique ha.asc hb.asc (fun v => (ha.mem v).trans (hb.mem v).symm)
def IsAft (l : Lts) (fr : List Nat) (e : Int) (vs : List Nat) : Prop :=
 (e = 0 ∧ IsReach (Esel l true) fr vs) ∨ (e ≠ 0 ∧ ∃ c m, IsReach (Esel l true) fr c ∧ IsAim l e c m ∧ IsReach (Esel l true) m vs)
theorem IsAft.unique {l : Lts} {e : Int} {fr a b : List Nat} (ha : IsAft l fr e a) (hb : IsAft l fr e b) : a = b := by
 rcases ha with ⟨h0, ha⟩ | ⟨h0, c, m, ha1, ha2, ha3⟩
 ·rcases hb with ⟨_, hb⟩ | ⟨h1, _⟩
  ·exact ha.unique hb
  ·exact absurd h0 h1
 ·rcases hb with ⟨h1, _⟩ | ⟨_, c', m', hb1, hb2, hb3⟩
  ·exact absurd h1 h0
  ·obtain rfl := ha1.unique hb1
   obtain rfl := ha2.unique hb2
   exact ha3.unique hb3

/-- What is marked is what is kept. -/
structure Mk (n r : Nat) (seen : List Int) (out : List Nat) : Prop where
 len : seen.length = n
 mem : ∀ v, v ∈ out ↔ v < n ∧ Tj.ix seen v = r
 nd : out.Nodup
 le : ∀ v, v < n → Tj.ix seen v ≤ r
theorem Mk.start {n r : Nat} {seen : List Int} (hl : seen.length = n) (hle : ∀ v, v < n → Tj.ix seen v < r) : Mk n r seen [] :=
 ⟨hl, fun v => ⟨(fun h => by cases h), (fun h => by have := hle v h.1; omega)⟩, List.nodup_nil, (fun v hv => by have := hle v hv; omega)⟩
theorem Mk.few {n r : Nat} {seen : List Int} {out : List Nat} (h : Mk n r seen out) : out.length ≤ n := by
 have := h.nd.length_le_of_subset (l₂ := List.range n) (fun v hv => List.mem_range.2 ((h.mem v).1 hv).1)
 simpa using this
theorem Mk.add {n r : Nat} {seen : List Int} {out : List Nat} {v : Nat} (h : Mk n r seen out) (hv : v < n) (hne : Tj.ix seen v ≠ r) : Mk n r (seen.set v (r : Int)) (out ++ [v]) := by
 have hvl : v < seen.length := by rw [h.len]; exact hv
 have hnew : v ∉ out := fun hm => hne ((h.mem v).1 hm).2
 have hix : ∀ u, Tj.ix (seen.set v (r : Int)) u = if u = v then (r : Int) else Tj.ix seen u := fun u => Tj.ix_set _ _ _ _ hvl
 refine ⟨by rw [List.length_set]; exact h.len, fun u => ?_, ?_, fun u hu => ?_⟩
 ·rw [List.mem_append, h.mem u, List.mem_singleton, hix u]
  by_cases huv : u = v
  ·subst huv; simp [hv]
  ·simp [huv]
 ·rw [List.nodup_append]
  exact ⟨h.nd, by simp, fun a ha b hb => by rw [List.mem_singleton] at hb; subst hb; intro e; exact hnew (e ▸ ha)⟩
 ·rw [hix u]
  split
  ·exact Int.le_refl _
  ·exact h.le u hu

/-- All targets of the first i states; and of the first j arcs of the next. -/
def TD (l : Lts) (e : Int) (fr : List Nat) (i : Nat) (out : List Nat) : Prop := ∀ v, v ∈ out ↔ ∃ s ∈ fr.take i, v ∈ Aim l e s
def TP (l : Lts) (e : Int) (fr : List Nat) (i : Nat) (row : List Arc) (j : Nat) (out : List Nat) : Prop := ∀ v, v ∈ out ↔ (∃ s ∈ fr.take i, v ∈ Aim l e s) ∨ ∃ y ∈ row.take j, y.1 = e ∧ y.2.toNat = v
theorem TD.start (l : Lts) (e : Int) (fr : List Nat) : TD l e fr 0 [] := fun v => by simp
theorem TD.part {l : Lts} {e : Int} {fr out : List Nat} {i : Nat} (h : TD l e fr i out) (row : List Arc) : TP l e fr i row 0 out := fun v => by rw [h v]; simp
theorem TP.skip {l : Lts} {e d : Int} {fr out : List Nat} {i j m : Nat} {row : List Arc} (h : TP l e fr i row j out) (hj : row[j]? = some (d, (m : Int))) (hd : d ≠ e) : TP l e fr i row (j + 1) out := fun v => by
 rw [h v, List.take_add_one, hj, Option.toList_some]
 constructor
 ·rintro (h1 | ⟨y, hy, h2⟩)
  ·exact .inl h1
  ·exact .inr ⟨y, List.mem_append_left _ hy, h2⟩
 ·rintro (h1 | ⟨y, hy, h2⟩)
  ·exact .inl h1
  ·rcases List.mem_append.1 hy with hy | hy
   ·exact .inr ⟨y, hy, h2⟩
   ·rw [List.mem_singleton] at hy
    subst hy
    exact absurd h2.1 hd
theorem TP.add {l : Lts} {e : Int} {fr out out2 : List Nat} {i j m : Nat} {row : List Arc} (h : TP l e fr i row j out) (hj : row[j]? = some (e, (m : Int))) (ho : ∀ v, v ∈ out2 ↔ v = m ∨ v ∈ out) : TP l e fr i row (j + 1) out2 := fun v => by
 rw [ho v, h v, List.take_add_one, hj, Option.toList_some]
 constructor
 ·rintro (rfl | h1 | ⟨y, hy, h2⟩)
  ·exact .inr ⟨_, List.mem_append_right _ (List.mem_singleton.2 rfl), rfl, by simp⟩
  ·exact .inl h1
  ·exact .inr ⟨y, List.mem_append_left _ hy, h2⟩
 ·rintro (h1 | ⟨y, hy, h2⟩)
  ·exact .inr (.inl h1)
  ·rcases List.mem_append.1 hy with hy | hy
   ·exact .inr (.inr ⟨y, hy, h2⟩)
   ·rw [List.mem_singleton] at hy
    subst hy
    have := h2.2
    simp at this
    exact .inl this.symm
theorem TP.next {l : Lts} {e : Int} {fr out : List Nat} {i j s : Nat} {row : List Arc} (h : TP l e fr i row j out) (hj : row.length ≤ j) (hs : fr[i]? = some s) (hr : l[s]? = some row) : TD l e fr (i + 1) out := fun v => by
 rw [h v, List.take_of_length_le hj, List.take_add_one, hs, Option.toList_some]
 constructor
 ·rintro (⟨u, hu, h1⟩ | h1)
  ·exact ⟨u, List.mem_append_left _ hu, h1⟩
  ·exact ⟨s, List.mem_append_right _ (List.mem_singleton.2 rfl), (mem_aim hr).2 h1⟩
 ·rintro ⟨u, hu, h1⟩
  rcases List.mem_append.1 hu with hu | hu
  ·exact .inl ⟨u, hu, h1⟩
  ·rw [List.mem_singleton] at hu
   subst hu
   exact .inr ((mem_aim hr).1 h1)
theorem TD.all {l : Lts} {e : Int} {fr out : List Nat} {i : Nat} (h : TD l e fr i out) (hi : fr.length ≤ i) : ∀ v, v ∈ out ↔ ∃ s ∈ fr, v ∈ Aim l e s := fun v => by rw [h v, List.take_of_length_le hi]

end Go.Proofs.YtikpcipkkhmcfaaGreat

/- Plain: what the entries of all traces ask of a transition system. No program in sight. -/
namespace Go.Proofs.YtikpcipkkhmcfaaGreat.Beh
open Go.Proofs.YtikpcipkkhmcfaaGreat Go.Proofs.YtikpcipkkhmcfaaGreat.Ind

open Classical in
/-- The states that are reached silently. -/
noncomputable def rchN (l : Lts) (fr : List Nat) : List Nat := if h : ∃ vs, IsReach (Esel l true) fr vs then Classical.choose h else []
theorem rch_eq {l : Lts} {fr vs : List Nat} (h : IsReach (Esel l true) fr vs) : rchN l fr = vs := by
 have hx : ∃ vs, IsReach (Esel l true) fr vs := ⟨vs, h⟩
 rw [rchN, dif_pos hx]
 exact (Classical.choose_spec hx).unique h
open Classical in
/-- The states behind an event, from a closed set. -/
noncomputable def aftN (l : Lts) (s : List Nat) (e : Int) : List Nat := if h : ∃ m, IsAim l e s m then rchN l (Classical.choose h) else []
theorem aft_eq {l : Lts} {s m vs : List Nat} {e : Int} (h1 : IsAim l e s m) (h2 : IsReach (Esel l true) m vs) : aftN l s e = vs := by
 have hx : ∃ m, IsAim l e s m := ⟨m, h1⟩
 rw [aftN, dif_pos hx, (Classical.choose_spec hx).unique h1]
 exact rch_eq h2
/-- A set that silent arcs do not leave. -/
def Closed (l : Lts) (s : List Nat) : Prop := IsReach (Esel l true) s s
theorem closed_of {l : Lts} {fr vs : List Nat} (h : IsReach (Esel l true) fr vs) : Closed l vs := by
 refine ⟨h.asc, fun v => ⟨fun hv => ⟨v, hv, .refl v⟩, ?_⟩⟩
 rintro ⟨s, hs, hp⟩
 obtain ⟨q, hq, hq2⟩ := (h.mem s).1 hs
 exact (h.mem v).2 ⟨q, hq, hq2.trans hp⟩
/-- The visible events of a row; of a set, ascending. -/
def visR (row : List Arc) : List Int := (row.filter fun a => decide (a.1 ≠ 0)).map (·.1)
def visL (l : Lts) (s : List Nat) : List Int := s.flatMap fun v => visR (l.getD v [])
def evN (l : Lts) (s : List Nat) : List Int := setG (fun a b : Int => decide (a < b)) (visL l s)
theorem mem_visR {row : List Arc} {e : Int} : e ∈ visR row ↔ e ≠ 0 ∧ ∃ a ∈ row, a.1 = e := by
 simp only [visR, List.mem_map, List.mem_filter, decide_eq_true_eq]
 constructor
 ·rintro ⟨a, ⟨h1, h2⟩, rfl⟩
  exact ⟨h2, a, h1, rfl⟩
 ·rintro ⟨h1, a, h2, rfl⟩
  exact ⟨a, ⟨h2, h1⟩, rfl⟩
theorem mem_evN {l : Lts} {s : List Nat} {e : Int} : e ∈ evN l s ↔ ∃ v ∈ s, e ∈ visR (l.getD v []) := by
 rw [evN, mem_setG sto_int, visL, List.mem_flatMap]
theorem asc_evN (l : Lts) (s : List Nat) : (evN l s).Pairwise (· < ·) := (setG_asc sto_int (visL l s)).imp (fun h => by simpa using h)
theorem row_ok {l : Lts} (hv : VLts l) (v : Nat) : VRow l.length (l.getD v []) := by
 rw [List.getD_eq_getElem?_getD]
 cases h : l[v]? with
 | none => exact ⟨by simp, rfl, by simp⟩
 | some row => exact hv.row row (List.mem_of_getElem? h)
theorem vis_evN {l : Lts} (hv : VLts l) (s : List Nat) : ∀ e ∈ evN l s, 1 ≤ e ∧ e ≤ 1025 := by
 intro e he
 obtain ⟨v, _, h⟩ := mem_evN.1 he
 obtain ⟨h0, ⟨a, t⟩, ha, rfl⟩ := mem_visR.1 h
 have := (row_ok hv v).ok a t ha
 simp only at h0 ⊢
 omega
/-- The acceptances of the states of a set, in their order. -/
def accN (l : Lts) (s : List Nat) : List (List Int) := s.filterMap fun v => if (accF (l.getD v [])).2 = true then some (accF (l.getD v [])).1 else none
open Classical in
noncomputable def divB (l : Lts) (s : List Nat) : Bool := decide (∃ v ∈ s, Div (Esel l true) v)
theorem divB_iff {l : Lts} {s : List Nat} : divB l s = true ↔ ∃ v ∈ s, Div (Esel l true) v := by simp [divB]
theorem mem_refEvs {row : List Arc} {e : Int} : e ∈ refEvs row ↔ ∃ a ∈ row, a.1 = e := by rw [← hasB_iff, has_refEvs]
theorem asc_refEvs (row : List Arc) : (refEvs row).Pairwise (· < ·) := by
 have h : ∀ (row : List Arc) (acc : List Int), acc.Pairwise (· < ·) → (row.foldl (fun acc a => addI acc a.1) acc).Pairwise (· < ·) := by
  intro row
  induction row with
  | nil => intro acc h; exact h
  | cons a r ih => intro acc h; exact ih _ (addI_asc acc a.1 h)
 exact h row [] List.Pairwise.nil
theorem ascB_of_pair : ∀ {l : List Int}, l.Pairwise (· < ·) → Ind.ascB l = true
 | [], _ => rfl
 | [_], _ => rfl
 | a :: b :: r, h => by
  have h1 := List.pairwise_cons.1 h
  rw [Ind.ascB, decide_eq_true (h1.1 b (by simp)), ascB_of_pair h1.2]
  rfl
theorem accF_rise {n : Nat} {row : List Arc} (h : VRow n row) : Ind.ascB (accF row).1 = true := by
 unfold accF
 split
 ·rfl
 ·split
  ·rw [evs_eq h.asc]
   exact ascB_of_pair (asc_refEvs row)
  ·rfl
theorem accF_vis {n : Nat} {row : List Arc} (h : VRow n row) : visB (accF row).1 = true := by
 rw [visB_iff]
 unfold accF
 split
 ·intro e he
  rw [List.mem_singleton.1 he]
  exact ⟨by omega, by omega⟩
 ·split
  ·rename_i hst
   intro e he
   rw [evs_eq h.asc] at he
   obtain ⟨⟨a, t⟩, ha, rfl⟩ := mem_refEvs.1 he
   have h1 := h.ok a t ha
   have h2 : hasB (refEvs row) 0 = false := by rw [stable_eq h, hst]; rfl
   have h3 : a ≠ 0 := by
    rintro rfl
    have : hasB (refEvs row) 0 = true := (has_refEvs row 0).2 ⟨(0, t), ha, rfl⟩
    rw [h2] at this
    cases this
   simp only
   omega
  ·intro e he
   cases he
theorem accN_of {l : Lts} {s : List Nat} {a : List Int} (h : a ∈ accN l s) : ∃ v, a = (accF (l.getD v [])).1 := by
 obtain ⟨v, _, h⟩ := List.mem_filterMap.1 h
 split at h
 ·exact ⟨v, by simpa using h.symm⟩
 ·cases h
noncomputable def wkL (l : Lts) : Wk := ⟨evN l, aftN l, fun t s => (t, minL (accN l s), divB l s), fun _ _ => rfl⟩
theorem wkL_ok {l : Lts} (hv : VLts l) : WkOk (wkL l) :=
 ⟨asc_evN l, vis_evN hv, fun _ _ => anti_minL _, fun _ s a ha => by
  obtain ⟨v, rfl⟩ := accN_of (mem_minL ha)
  exact accF_vis (row_ok hv v)⟩
theorem minL_congr {l r : List (List Int)} (h : ∀ x, x ∈ l ↔ x ∈ r) : minL l = minL r := by
 have hall : l.all Ind.ascB = r.all Ind.ascB := by
  rw [Bool.eq_iff_iff, List.all_eq_true, List.all_eq_true]
  exact ⟨fun h1 x hx => h1 x ((h x).2 hx), fun h1 x hx => h1 x ((h x).1 hx)⟩
 unfold minL
 rw [hall, minS_congr h]
/-- What Of answers: none where the entries are too many. -/
noncomputable def ofL (l : Lts) (n : Nat) : Option St := ofB (wkL l) n (rchN l [0])
theorem addL_app {k : Wk} {set : List Nat} {t : List Int} : ∀ (a b : List Int) (st : St), addL k set t (a ++ b) st = (addL k set t a st).bind (addL k set t b)
 | [], b, st => by simp [addL]
 | e :: r, b, st => by
  by_cases hf : st.length = 16384
  ·rw [List.cons_append, addL_full hf, addL_full hf]; rfl
  ·rw [List.cons_append, addL_cons hf, addL_cons hf]
   exact addL_app r b _
end Go.Proofs.YtikpcipkkhmcfaaGreat.Beh
