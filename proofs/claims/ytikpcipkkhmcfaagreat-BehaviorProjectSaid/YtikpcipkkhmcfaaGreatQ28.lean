/- Texts VP, C1, VQ. -/
import Derived.Test.YtikpcipkkhmcfaaGreatQ26
import Derived.Test.YtikpcipkkhmcfaaGreatQ27
import Derived.Test.YtikpcipkkhmcfaaGreatQ20
/- Contract of diamond.Minimal. -/
namespace Go.Proofs.YtikpcipkkhmcfaaGreat.Beh
open Go.Shelf Go.RowKit Go.Lib Go.Sort Go.Proofs.YtikpcipkkhmcfaaGreat Go.Proofs.YtikpcipkkhmcfaaGreat.Ind

theorem compF_set {ps qs : List PV} (hp : qs.Perm ps) (hs : qs.Pairwise (fun x y => ltL y.2 x.2 = false)) : (compF qs).map (·.2) = setG ltL (ps.map (·.2)) := by
 rw [compF_rows _ qs rfl]
 refine asc_uniq sto_list (asc_compG sto_list (List.pairwise_map.2 hs)) (setG_asc sto_list _) (fun x => ?_)
 rw [mem_compG, mem_setG sto_list]
 exact (hp.map (·.2)).mem_iff
theorem filter_next {α : Type} {p : α → Bool} {l : List α} {i : Nat} {x : α} (h : l[i]? = some x) : (l.take (i + 1)).filter p = (l.take i).filter p ++ (if p x = true then [x] else []) := by
 rw [take_snoc h, List.filter_append, List.filter_cons, List.filter_nil]
/-- Whether the set is a minimal one of L. -/
def leastB (L : List (List Int)) (x : List Int) : Bool := !(L.any fun y => decide (y ≠ x) && subI y x)
theorem minS_least (l : List (List Int)) : minS l = (setG ltL l).filter (leastB (setG ltL l)) := rfl
def hitB (x y : List Int) : Bool := decide (y ≠ x) && subI y x
theorem leastB_eq (L : List (List Int)) (x : List Int) : leastB L x = !(L.any (hitB x)) := rfl
theorem any_next {α : Type} {p : α → Bool} {l : List α} {i : Nat} {x : α} (h : l[i]? = some x) : (l.take (i + 1)).any p = ((l.take i).any p || p x) := by
 rw [take_snoc h, List.any_append, List.any_cons, List.any_nil, Bool.or_false]
theorem any_at {α : Type} {p : α → Bool} {l : List α} {i : Nat} {x : α} (h : l[i]? = some x) (hp : p x = true) : l.any p = true := List.any_eq_true.2 ⟨x, List.mem_of_getElem? h, hp⟩
theorem all_drop {α : Type} {p : α → Bool} {l : List α} {i : Nat} {x : α} (h : l[i]? = some x) (hp : p x = false) : l.all p = false := by
 rw [List.all_eq_false]
 exact ⟨x, List.mem_of_getElem? h, by simp [hp]⟩
def MinEnd (w : World) (l : List (List Int)) (e : Ending) (w' : World) : Prop :=
 ∃ a c us, e = .returned (.slice a (minL l).length c) ∧ Sep w w' [ownsC 22 3 1 ints (.slice a (minL l).length c) us (minL l)]
theorem minEnd_nil {w w' : World} {l : List (List Int)} (h : minL l = []) (hf : Frm [] w w') : MinEnd w l (.returned (.slice none 0 0)) w' := by
 unfold MinEnd
 rw [h]
 exact ⟨none, 0, [], rfl, (Sep.start w).add (ownsC 22 3 1 ints (.slice none 0 0) [] []) hf (ownsC_nil _ _ _ _ _) (by simp [ownsC, Value.ownBlock])⟩
set_option linter.unusedSimpArgs false in
set_option maxRecDepth 100000 in
set_option maxHeartbeats 8000000 in
theorem minimal_any (F : List Nat) (w : World) (v : Value) (ps : List PV) (h : RowV w F v ps.length 1 (ps.map (·.1))) (hp : PsAt w F ps) (hn : ps.length ≤ 5864062014805) (hm : ∀ p ∈ ps, p.2.length ≤ 17592186044416) :
  Calls Tryz.prog 76 #[v] w (MinEnd w (ps.map (·.2))) := by
 obtain ⟨va, vc, rfl⟩ := RowV.shape h
 have H := Lib.hid h
 have HP := Lib.hid hp
 have HM := Lib.hid hm
 obtain ⟨rows, hrows⟩ : ∃ rows, rows = ps.map (·.2) := ⟨_, rfl⟩
 rw [← hrows]
 have HRW := Lib.hid hrows
 have hcl := cloneS_any w _ ps.length _ h hp.one hn
 have HCL := Lib.hid hcl
 have l1 := h.rd.lt
 clear h hp hm hcl hrows
 go_enter Tryz.func76, Tryz.ntmps76
 go_wp2_with fail
 go_loopg [14] ps.length (fun q t wr => ∃ (k : Nat), q = ps.length - k ∧ k ≤ ps.length ∧ t = .int .i64 k ∧ (rows.take k).all Ind.ascB = true ∧ Frm [] w wr)
 case atStart => exact ⟨0, rfl, Nat.zero_le _, rfl, rfl, Frm.refl _ _⟩
 case round =>
  obtain ⟨k, hq, hk, rfl, hd, hF⟩ := hrel
  have HQ := Lib.hid hq
  have HF := Lib.hid hF
  have HD := Lib.hid hd
  have i4 : (0 : Int) ≤ (k : Int) := by omega
  clear hq hF hd
  by_cases hlt : k < ps.length
  ·have i5 : (k : Int) < (ps.length : Int) := by omega
   obtain ⟨⟨x1, x⟩, hx⟩ : ∃ x, ps[k]? = some x := ⟨_, List.getElem?_eq_getElem hlt⟩
   have hxr : rows[k]? = some x := by rw [HRW.out, List.getElem?_map, hx]; rfl
   have hrx : RowV w F x1 x.length 1 (ints x) := HP.out _ (List.mem_of_getElem? hx)
   obtain ⟨xa, xc, rfl⟩ := hrx.shape
   obtain ⟨_, a', c', e', _, _, _, hcell⟩ := H.out
   obtain ⟨rfl, rfl⟩ : va = a' ∧ vc = c' := by simpa using e'
   obtain ⟨b, o, rfl, _, _, hc⟩ := hcell k (.slice xa x.length xc) (by rw [List.getElem?_map, hx]; rfl)
   have c0 := HF.out.cell hc (by simp)
   have hcall := ascend_any wr.heap.size xa xc x wr (hrx.nil HF.out).rd
   have hall : (rows.take (k + 1)).all Ind.ascB = ((rows.take k).all Ind.ascB && Ind.ascB x) := by
    rw [take_snoc hxr, List.all_append, List.all_cons, List.all_nil, Bool.and_true]
   rw [HD.out, Bool.true_and] at hall
   clear hcell hc e' hx hrx
   cases hb : Ind.ascB x with
   | true =>
    rw [hb] at hcall hall
    have HC := Lib.hid hcall
    have HA := Lib.hid hall
    clear hcall hall hb hxr
    go_wp2_with (go_at_call 101; refine HC.out.mono ?_; rintro e5 w5 ⟨rfl, hf5⟩)
    go_roundg (ps.length - (k + 1))
    case rel => exact ⟨k + 1, rfl, by omega, by go_num, HA.out, HF.out.trans hf5 (by simp)⟩
    case measure => have := HQ.out; omega
   | false =>
    rw [hb] at hcall
    have HC := Lib.hid hcall
    have HR : Hid (minL rows = []) := Lib.hid (by rw [minL, if_neg (by rw [all_drop hxr hb]; simp)])
    clear hcall hall hb hxr
    go_wp2_with (go_at_call 101; refine HC.out.mono ?_; rintro e5 w5 ⟨rfl, hf5⟩)
    go_ret
    exact minEnd_nil HR.out (HF.out.trans hf5 (by simp))
  ·have i5 : ¬ (k : Int) < (ps.length : Int) := by omega
   have hrl : rows.length = ps.length := by rw [HRW.out, List.length_map]
   have hall : rows.all Ind.ascB = true := by
    have := HD.out
    rw [List.take_of_length_le (by omega)] at this
    exact this
   have hml : minL rows = minS rows := by rw [minL, if_pos hall]
   have HML := Lib.hid hml
   have HALL := Lib.hid hall
   have hcl := cloneS_any wr _ ps.length _ (H.out.nil HF.out) HP.out.one hn
   have HCL2 := Lib.hid hcl
   clear HD hall hml hcl hrl HCL
   go_wp2_with (first | (go_at_call 102; refine HCL2.out.mono ?_; rintro e1 w1 ⟨⟨a1, c1, rfl, own1⟩, hf1⟩) | fail)
   have hs := sortS_any wr.heap.size (Value.slice a1 ps.length c1).ownBlock.toList a1 c1 ps.length ps w1 own1 rfl (HP.out.step (HF.out.trans hf1 (by simp)) (by simp) (fun k hk => by
    have := (own1.lt k (by simpa using hk)).1
    have := HF.out.size
    exact .inr (by omega))) (fun k hk => by simp [hk]) hn
   have HF1 := Lib.hid (HF.out.trans hf1 (by simp))
   have hP1 := HP.out.step HF1.out (by simp) (F' := (Value.slice a1 ps.length c1).ownBlock.toList) (fun k hk => by
    have := (own1.lt k (by simpa using hk)).1
    have := HF.out.size
    exact .inr (by omega))
   have HP1 := Lib.hid hP1
   have HB1 : Hid (∀ k ∈ (Value.slice a1 ps.length c1).ownBlock.toList, wr.heap.size ≤ k) := Lib.hid fun k hk => (own1.lt k (by simpa using hk)).1
   have HS := Lib.hid hs
   clear hs own1 hf1 hP1
   go_wp2_with (first | (go_at_call 103; refine HS.out.mono ?_; rintro e2 w2 ⟨⟨rfl, qs, hperm, hsort, own2⟩, hf2⟩) | fail)
   have hql : qs.length = ps.length := hperm.length_eq
   have hP2 : PsAt w2 (Value.slice a1 ps.length c1).ownBlock.toList qs := fun q hq => (HP1.out q (hperm.mem_iff.1 hq)).frm hf2 (fun k hk => .inl hk)
   have hset := compF_set hperm hsort
   rw [← HRW.out] at hset
   have hcp := compactS_any wr.heap.size (Value.slice a1 ps.length c1).ownBlock.toList a1 c1 qs w2 (by rw [hql]; exact own2) hP2 (fun k hk => by rw [hql] at hk; simp [hk]) (by omega)
   rw [hql] at hcp
   have HCP := Lib.hid hcp
   have HP2 := Lib.hid hP2
   have HF2 := Lib.hid hf2
   have HPM := Lib.hid hperm
   have HQL := Lib.hid hql
   clear hcp hP2 hf2 hperm hsort own2 HS hql
   go_wp2_with (first | (go_at_call 104; refine HCP.out.mono ?_; rintro e3 w3 ⟨rfl, own3, hf3⟩) | fail)
   rw [HQL.out] at hf3
   obtain ⟨zs, hzs⟩ : ∃ zs, zs = compF qs := ⟨_, rfl⟩
   have hzl : zs.length ≤ ps.length := by rw [hzs, ← HQL.out]; exact compF_len qs
   have hP3 : PsAt w3 [] zs := fun q hq => ((HP2.out q (mem_compF qs q (by rw [← hzs]; exact hq))).step (F' := []) hf3 (fun k hk => .inl hk) (by simp))
   have hzm : ∀ q ∈ zs, q ∈ ps := fun q hq => HPM.out.mem_iff.1 (mem_compF qs q (by rw [← hzs]; exact hq))
   rw [← hzs] at own3 hset ⊢
   have hW3 : Frm [] w w3 := HF1.out.trans (HF2.out.trans hf3 (fun k hk => .inl hk)) (fun k hk => .inr (Nat.le_trans HF.out.size (HB1.out k hk)))
   have HW3 := Lib.hid hW3
   obtain ⟨L, hL⟩ : ∃ L, L = zs.map (·.2) := ⟨_, rfl⟩
   have hLs : L = setG ltL rows := by rw [hL, hset]
   have hrise : ∀ x ∈ L, x.Pairwise (· < ·) := fun x hx => by
    rw [hLs, mem_setG sto_list] at hx
    exact asc_of_ascB (List.all_eq_true.1 HALL.out x hx)
   have hnd : L.Nodup := by rw [hLs]; exact asc_nodup sto_list (setG_asc sto_list rows)
   have HEND : Hid (minL rows = L.filter (leastB L)) := Lib.hid (by rw [HML.out, minS_least, ← hLs])
   have HL := Lib.hid hL
   have HRISE := Lib.hid hrise
   have HND := Lib.hid hnd
   have HO3 := Lib.hid own3
   have HP3 := Lib.hid hP3
   have HZM := Lib.hid hzm
   have hzc : zs.length ≤ c1 := by
    obtain ⟨_, a', c', e', h2, _⟩ := rowV_of_owns (F := []) own3 (by simp)
    cases e'
    exact h2
   clear hL hLs hrise hnd own3 hP3 hzs hf3 hset hW3 HF1 HF2 HP1 HP2 HB1 HCL2 HPM HQL hzm
   obtain ⟨n, hn9⟩ : ∃ n, n = zs.length := ⟨_, rfl⟩
   rw [← hn9] at HO3 hzl hzc ⊢
   have HN := Lib.hid hn9
   clear hn9
   have l3 : (n : Int) ≤ 5864062014805 := by omega
   go_wp2_with fail
   go_loopg [6, 30] n (fun q t6 t30 wr => ∃ (i : Nat) (a6 : Option Addr) (c6 : Nat) (us : List Value), q = n - i ∧ i ≤ n ∧ t30 = .int .i64 i ∧ t6 = .slice a6 ((L.take i).filter (leastB L)).length c6 ∧ Sep w3 wr [ownsC 22 3 1 ints (.slice a6 ((L.take i).filter (leastB L)).length c6) us ((L.take i).filter (leastB L))])
   case atStart => exact ⟨0, none, 0, [], rfl, Nat.zero_le _, rfl, rfl, (Sep.start w3).add (ownsC 22 3 1 ints (.slice none 0 0) [] []) (Frm.refl _ _) (ownsC_nil _ _ _ _ _) (by simp [ownsC, Value.ownBlock])⟩
   case round =>
    obtain ⟨i, a6, c6, us, hq, hi, rfl, rfl, hS⟩ := hrel
    have HQ := Lib.hid hq
    have S := Lib.hid hS
    have j4 : (0 : Int) ≤ (i : Int) := by omega
    clear hq hS
    have HLL : L.length = n := by rw [HL.out, List.length_map, HN.out]
    by_cases hlt : i < n
    ·have j5 : (i : Int) < (n : Int) := by omega
     obtain ⟨⟨x1, x⟩, hx⟩ : ∃ x, zs[i]? = some x := ⟨_, List.getElem?_eq_getElem (by rw [← HN.out]; exact hlt)⟩
     have hxL : L[i]? = some x := by rw [HL.out, List.getElem?_map, hx]; rfl
     have hrx : RowV w3 [] x1 x.length 1 (ints x) := HP3.out _ (List.mem_of_getElem? hx)
     have hxm : x.length ≤ 17592186044416 := HM.out _ (HZM.out _ (List.mem_of_getElem? hx))
     obtain ⟨xa, xc, rfl⟩ := hrx.shape
     obtain ⟨g, cp, e0, _, _, _, _⟩ := ownsB_some HO3.out (by omega)
     obtain ⟨rfl, rfl⟩ : a1 = some ⟨g, 0, none⟩ ∧ c1 = cp := by simpa using e0
     have c0 := S.out.frm.cell (cell1 HO3.out hx) (by simp)
     have HX := Lib.hid hxL
     have HRX := Lib.hid hrx
     obtain ⟨mw, hmw⟩ : ∃ mw, mw = ((L.take i).filter (leastB L)).length := ⟨_, rfl⟩
     have HMW := Lib.hid hmw
     have hmi : mw ≤ i := by
      have h1 := List.length_filter_le (leastB L) (L.take i)
      have h2 := List.length_take_le i L
      omega
     rw [← hmw] at S ⊢
     obtain ⟨wx, hwx⟩ : ∃ wx, wx = wr := ⟨wr, rfl⟩
     rw [← hwx] at S c0 ⊢
     clear hx hxL hrx e0 hmw hwx
     go_wp2_with fail
     go_loopg [9, 37] n (fun q t9 t37 wr2 => ∃ (k : Nat), q = n - k ∧ k ≤ n ∧ t9 = .bool true ∧ t37 = .int .i64 k ∧ (L.take k).any (hitB x) = false ∧ Frm [] wx wr2)
     case atStart => exact ⟨0, rfl, Nat.zero_le _, rfl, rfl, rfl, Frm.refl _ _⟩
     case round =>
      clear c0
      obtain ⟨k, hq2, hk, rfl, rfl, hd, hF2⟩ := hrel
      have HQ2 := Lib.hid hq2
      have HF2 := Lib.hid hF2
      have HD := Lib.hid hd
      have k4 : (0 : Int) ≤ (k : Int) := by omega
      clear hq2 hF2 hd
      by_cases hlt2 : k < n
      ·have k5 : (k : Int) < (n : Int) := by omega
       obtain ⟨⟨y1, y⟩, hy⟩ : ∃ x, zs[k]? = some x := ⟨_, List.getElem?_eq_getElem (by rw [← HN.out]; exact hlt2)⟩
       have hyL : L[k]? = some y := by rw [HL.out, List.getElem?_map, hy]; rfl
       have hry : RowV w3 [] y1 y.length 1 (ints y) := HP3.out _ (List.mem_of_getElem? hy)
       obtain ⟨ya, yc, rfl⟩ := hry.shape
       have d0 := HF2.out.cell (S.out.frm.cell (cell1 HO3.out hy) (by simp)) (by simp)
       have FW := S.out.frm.trans HF2.out (by simp)
       have hcall := dsubset_any wr _ _ y x (hry.nil FW) (HRX.out.nil FW) (HRISE.out y (List.mem_of_getElem? hyL)) (HRISE.out x (List.mem_of_getElem? HX.out))
       have hnx := any_next (p := hitB x) hyL
       rw [HD.out, Bool.false_or] at hnx
       have hiff : (k = i ↔ y = x) := by
        constructor
        ·rintro rfl
         have h9 := HX.out
         rw [hyL] at h9
         cases h9; rfl
        ·rintro rfl
         have h9 := HX.out
         exact (List.getElem?_inj (List.getElem?_eq_some_iff.1 hyL).1 HND.out).1 (hyL.trans h9.symm)
       by_cases hki : k = i
       ·have jn : ((k : Int) != (i : Int)) = false := by simp [hki]
        have HA : Hid ((L.take (k + 1)).any (hitB x) = false) := Lib.hid (by rw [hnx, hitB, hiff.1 hki]; simp)
        clear hcall hnx hiff hki hy hyL hry FW
        go_wp2_with fail
        go_roundg (n - (k + 1))
        case rel => exact ⟨k + 1, rfl, by omega, rfl, by go_num, HA.out, HF2.out⟩
        case measure => have := HQ2.out; omega
       ·have jn : ((k : Int) != (i : Int)) = true := by simp; omega
        have hyx : y ≠ x := fun e => hki (hiff.2 e)
        have hhit : hitB x y = subI y x := by rw [hitB, decide_eq_true hyx, Bool.true_and]
        rw [hhit] at hnx
        cases hb : subI y x with
        | true =>
         rw [hb] at hcall hhit
         have HC := Lib.hid hcall
         have HR : Hid (leastB L x = false) := Lib.hid (by rw [leastB_eq, any_at hyL hhit]; rfl)
         clear hcall hnx hiff hki hy hyL hry FW hyx hhit hb
         go_wp2_with (go_at_call 105; refine HC.out.mono ?_; rintro e5 w5 ⟨rfl, hf5⟩)
         have hflt := filter_next (p := leastB L) HX.out
         rw [HR.out, if_neg (by simp), List.append_nil] at hflt
         go_roundg (n - (i + 1))
         case rel =>
          refine ⟨i + 1, a6, c6, us, rfl, by omega, by go_num, ?_, ?_⟩
          ·rw [hflt, ← HMW.out]
          ·rw [hflt, ← HMW.out]
           exact (S.out.nil HF2.out).nil hf5
         case measure => have := HQ.out; omega
        | false =>
         rw [hb] at hcall hnx
         have HC := Lib.hid hcall
         have HA := Lib.hid hnx
         clear hcall hnx hiff hki hy hyL hry FW hyx hhit hb
         go_wp2_with (go_at_call 105; refine HC.out.mono ?_; rintro e5 w5 ⟨rfl, hf5⟩)
         go_roundg (n - (k + 1))
         case rel => exact ⟨k + 1, rfl, by omega, rfl, by go_num, HA.out, HF2.out.trans hf5 (by simp)⟩
         case measure => have := HQ2.out; omega
      ·have k5 : ¬ (k : Int) < (n : Int) := by omega
       have HR : Hid (leastB L x = true) := Lib.hid (by
        have := HD.out
        rw [List.take_of_length_le (by omega)] at this
        rw [leastB_eq, this]; rfl)
       have S2 := Lib.hid (S.out.nil HF2.out)
       have hcl := cloneI_any wr _ x ((HRX.out.nil S.out.frm).nil HF2.out) hxm
       have HCL := Lib.hid hcl
       clear hcl HD
       go_wp2_with (first
        | (go_at_call 61; refine HCL.out.mono ?_; rintro e7 w7 ⟨⟨a7, c7, rfl, own7⟩, hf7⟩; have S7 := Lib.hid (S2.out.add (ownC 3 1 (.slice a7 x.length c7) x.length (ints x)) hf7 (ownC_of own7) (ownC_new own7)); clear own7 hf7)
        | (at_builtin; refine app_rowB rfl (.tmp 52) (.tmp 55) 67 22 _ 1 24 rfl Tryz.underlying67 infoIs rfl (by decide) 0 mw (.slice a6 mw c6) us rfl (by have := ((S7.out.nil ((Frm.refl [] w7).alloc (.cells #[.slice a7 x.length c7] 22))).at_ 1 rfl).1; rw [← HMW.out] at this; exact this) _ 1 [.slice a7 x.length c7] [] rfl (rowV_cells (size := 1) (RowAt.made w7 22 [.slice a7 x.length c7] #[.slice a7 x.length c7] rfl) rfl (Nat.le_refl _) (by decide) (by simp)) (by simp [Value.oneCell']) (mw + 1) rfl (by omega) (by omega) (Nat.zero_le _) ?_; intro a11 c11 w11 own11 hf11 hb11; have S11 := Lib.hid ((S7.out.nil ((Frm.refl [] w7).alloc (.cells #[.slice a7 x.length c7] 22))).snoc rfl rfl (by decide) rfl own11 (by rw [HMW.out]) rfl hf11 (fun k hk => (hb11 k hk).imp id (fun e => Nat.le_of_eq e.symm))); clear own11 hf11 hb11)
        | fail)
       have hflt := filter_next (p := leastB L) HX.out
       rw [HR.out, if_pos rfl] at hflt
       have hfl : ((L.take (i + 1)).filter (leastB L)).length = mw + 1 := by rw [hflt, List.length_append, ← HMW.out]; rfl
       have HFLT := Lib.hid hflt
       have HFL := Lib.hid hfl
       clear hflt hfl
       go_roundg (n - (i + 1))
       case rel =>
        refine ⟨i + 1, a11, c11, us ++ [.slice a7 x.length c7], rfl, by omega, by go_num, ?_, ?_⟩
        ·rw [HFL.out]
        ·rw [HFL.out, HFLT.out]
         exact S11.out
       case measure => have := HQ.out; omega
    ·have j5 : ¬ (i : Int) < (n : Int) := by omega
     have HT : Hid (L.take i = L) := Lib.hid (List.take_of_length_le (by omega))
     rw [HT.out] at S ⊢
     go_wp2_with fail
     go_ret
     unfold MinEnd
     rw [HEND.out]
     exact ⟨a6, c6, us, rfl, S.out.back HW3.out⟩
end Go.Proofs.YtikpcipkkhmcfaaGreat.Beh

/- Contract of Targets of a Walker. -/
namespace Go.Proofs.YtikpcipkkhmcfaaGreat
open Go.RowKit

def TargEnd (B : Nat) (l : Lts) (ev : Int) (fr : List Nat) (w' : World) (e : Ending) : Prop :=
 ∃ (a : Option Addr) (c : Nat) (vs : List Nat), e = .returned (.slice a vs.length c) ∧ w'.ownsRow B 3 1 (.slice a vs.length c) vs.length (ints (natI vs)) ∧ IsAim l ev fr vs

set_option linter.unusedSimpArgs false in
set_option maxRecDepth 100000 in
set_option maxHeartbeats 4000000 in
theorem wtarg_any (B wb gs : Nat) (a : Option Addr) (cap : Nat) (l : Lts) (r : Nat) (seen0 : List Int) (fa : Option Addr) (fc : Nat) (fr : List Nat) (ev : Int) (w : World) (hv : validB l = true) (hw : WkAt B w wb gs a cap l.length r seen0) (hr : r ≤ 1000000)
  (h0 : LAt B w a cap l) (hf0 : ∀ w', Frm [wb, gs] w w' → Rd w.heap.size w' fa fr.length fc 1 (ints (natI fr))) (hfl : ∀ v ∈ fr, v < l.length) :
  Calls Tryz.prog 93 #[.pointer (some ⟨wb, 0, none⟩), .slice fa fr.length fc, .int .i64 ev] w fun e w' => TargEnd w.heap.size l ev fr w' e ∧ (∃ seen, WkAt B w' wb gs a cap l.length (r + 1) seen) ∧ Frm [wb, gs] w w' := by
 have HL0 := Lib.hid h0
 have hbl := hw.lo
 have hbg := (hw.own.lt gs rfl).1
 have HF0 := Lib.hid hf0
 have HFL := Lib.hid hfl
 have HV := Lib.hid (vlts_of hv)
 have hfew := (vlts_of hv).few
 have i2 : (l.length : Int) ≤ 16384 := by omega
 have hfrl := (hf0 w (Frm.refl _ _)).lt
 have hbw := hw.row.lt
 have hgw := (hw.own.lt gs rfl).2
 have hne := hw.ne
 have c0 := hw.row.cell (i := 0) rfl
 have c1 := hw.row.cell (i := 1) rfl
 have c2 := hw.row.cell (i := 2) rfl
 have z2 := hw.row.frozen 2
 have hwr : IntKind.i64.wrap ((r : Int) + 1) = (r : Int) + 1 := IntWalk.i64_in _ (by omega)
 have hk1 : WkAt B (w.setCell ⟨wb, 2, none⟩ (.int .i64 ((r : Int) + 1))) wb gs a cap l.length (r + 1) seen0 := by
  refine ⟨?_, own_set hw.own hne, hne, hw.lo, fun v hv => by have := hw.le v hv; push_cast; omega⟩
  have := hw.row.setCell 2 (.int .i64 ((r : Int) + 1))
  simpa using this
 have HK1 := Lib.hid hk1
 have hf1 : Frm [wb, gs] w (w.setCell ⟨wb, 2, none⟩ (.int .i64 ((r : Int) + 1))) := (Frm.refl _ w).setCell (p := ⟨wb, 2, none⟩) (.inl (by simp)) _
 have HF1 := Lib.hid hf1
 have hst : Mk l.length (r + 1) seen0 [] := Mk.start hw.len (fun v hv => by have := hw.le v hv; push_cast; omega)
 have HST := Lib.hid hst
 clear h0 hf0 hfl hw hv hk1 hf1 hst
 go_enter Tryz.func93, Tryz.ntmps93
 go_wp2_with fail
 go_loopg [7, 21] fr.length (fun q s7 s21 wr => ∃ (i : Nat), q = fr.length - i ∧ i ≤ fr.length ∧ s21 = .int .i64 (i : Int) ∧ (∃ (seen : List Int) (out : List Nat) (a7 : Option Addr) (c7 : Nat), s7 = .slice a7 out.length c7 ∧ Mk l.length (r + 1) seen out ∧ TD l ev fr i out ∧ wr.ownsRow w.heap.size 3 1 (.slice a7 out.length c7) out.length (ints (natI out)) ∧ WkAt B wr wb gs a cap l.length (r + 1) seen ∧ Frm [wb, gs] w wr))
 case atStart => exact ⟨0, rfl, Nat.zero_le _, rfl, seen0, [], none, 0, rfl, HST.out, TD.start _ _ _, World.ownsRow_nil _ _ _ _, HK1.out, HF1.out⟩
 case round =>
  obtain ⟨i, rfl, hi, rfl, seen1, out1, a1, cc1, rfl, hmk, htd, hown, hat, hF⟩ := hrel
  have HMK := Lib.hid hmk
  have HTD := Lib.hid htd
  have HOWN := Lib.hid hown
  have HAT := Lib.hid hat
  have HF := Lib.hid hF
  have b0 := hat.row.cell (i := 0) rfl
  have i4 : (0 : Int) ≤ (i : Int) := by omega
  have holn := hmk.few
  have hszr := hF.size
  clear hmk htd hown hat hF c0 c1 c2 z2
  by_cases hil : i < fr.length
  ·have i5 : (i : Int) < (fr.length : Int) := by omega
   obtain ⟨c, hc⟩ : ∃ c, fr[i]? = some c := ⟨_, List.getElem?_eq_getElem hil⟩
   have hcl := HFL.out c (List.mem_of_getElem? hc)
   obtain ⟨fb, fo, rfl, hfb, cf⟩ := (HF0.out wr HF.out).at (natI_get hc)
   obtain ⟨row, hrow⟩ : ∃ row, l[c]? = some row := ⟨_, List.getElem?_eq_getElem hcl⟩
   obtain ⟨bl, ol, ra, rc, hla, hblB, q1, hrr⟩ := HL0.out.cell c row hrow
   have hla' := hla
   subst hla'
   have hfewr := (HV.out.row row (List.mem_of_getElem? hrow)).few
   have q2 := HF.out.cell q1 (by simp; omega)
   have HRR := Lib.hid hrr
   have i6 : (row.length : Int) ≤ 262144 := by omega
   have i7 : (0 : Int) ≤ (c : Int) := by omega
   have i8 : (c : Int) < (l.length : Int) := by omega
   have HC := Lib.hid hc
   have HROW := Lib.hid hrow
   clear hc hrow hrr q1 hla
   go_wp2_with fail
   go_loopg [7, 34] row.length (fun q s7 s34 wr => ∃ (j : Nat) (seen : List Int) (out : List Nat) (a7 : Option Addr) (c7 : Nat), q = row.length - j ∧ j ≤ row.length ∧ s34 = .int .i64 (j : Int) ∧ s7 = .slice a7 out.length c7 ∧ Mk l.length (r + 1) seen out ∧ TP l ev fr i row j out ∧ wr.ownsRow w.heap.size 3 1 (.slice a7 out.length c7) out.length (ints (natI out)) ∧ WkAt B wr wb gs (some ⟨bl, ol, none⟩) cap l.length (r + 1) seen ∧ Frm [wb, gs] w wr)
   case atStart => exact ⟨0, seen1, out1, _, cc1, rfl, Nat.zero_le _, rfl, rfl, HMK.out, HTD.out.part row, HOWN.out, HAT.out, HF.out⟩
   case round =>
    clear HMK HTD HOWN HAT HF q2 b0 hszr holn cf
    obtain ⟨j, seen, out, a7, c7, rfl, hj, rfl, rfl, hmk, htp, hown, hat, hF⟩ := hrel
    have HMK := Lib.hid hmk
    have HTP := Lib.hid htp
    have HOWN := Lib.hid hown
    have HAT := Lib.hid hat
    have HF := Lib.hid hF
    have hszr := hF.size
    have b0 := hat.row.cell (i := 0) rfl
    have b1 := hat.row.cell (i := 1) rfl
    have b2 := hat.row.cell (i := 2) rfl
    have nb := World.block_lt_of_cell? _ _ b1
    have i9 : (0 : Int) ≤ (j : Int) := by omega
    have holn := hmk.few
    simp only at nb
    clear hmk htp hown hat hF
    by_cases hjl : j < row.length
    ·have i10 : (j : Int) < (row.length : Int) := by omega
     obtain ⟨⟨e, t⟩, harc⟩ : ∃ y, row[j]? = some y := ⟨_, List.getElem?_eq_getElem hjl⟩
     have hok := (HV.out.row row (List.mem_of_getElem? HROW.out)).ok e t (List.mem_of_getElem? harc)
     obtain ⟨m, rfl⟩ : ∃ m : Nat, t = (m : Int) := ⟨t.toNat, by omega⟩
     have hml : m < l.length := by omega
     obtain ⟨g3, o3, rfl, hg3, p1, p2⟩ := HRR.out.2.2.2 j e m harc
     have d1 := HF.out.cell p1 (by simp; omega)
     have d2 := HF.out.cell p2 (by simp; omega)
     have n1 := World.block_lt_of_cell? _ _ d1
     simp only at n1
     have HARC := Lib.hid harc
     have co := (own_rowg2 HAT.out.own).cell (ints_get (ix_some HAT.out.len hml))
     have zo := (own_rowg2 HAT.out.own).frozen m
     have ng := World.block_lt_of_cell? _ _ co
     simp only at ng
     obtain ⟨x, hx⟩ : ∃ x, Tj.ix seen m = x := ⟨_, rfl⟩
     rw [hx] at co
     have HX := Lib.hid hx
     have i11 : (0 : Int) ≤ (m : Int) := by omega
     have i12 : (m : Int) < (l.length : Int) := by omega
     have i13 : (out.length : Int) ≤ 16384 := by omega
     have hata := HAT.out.nil ((Frm.refl [] wr).alloc (.cells #[.int .i64 e, .int .i64 (m : Int)] 66))
     have HATA := Lib.hid hata
     clear harc hok p1 p2 hx hata
     by_cases hee : e = ev
     ·subst hee
      by_cases hxr : x = (r : Int) + 1
      ·subst hxr
       have hmem : m ∈ out := (HMK.out.mem m).2 ⟨hml, by rw [HX.out]; push_cast; rfl⟩
       have HTP2 := Lib.hid (HTP.out.add (out2 := out) HARC.out (fun v => ⟨.inr, fun h9 => by
        rcases h9 with h9 | h9
        ·rw [h9]; exact hmem
        ·exact h9⟩))
       clear hmem
       go_wp2_with fail
       go_quiet (fail)
       go_wp2_with fail
       go_roundg (row.length - (j + 1))
       case rel => exact ⟨j + 1, seen, out, a7, c7, rfl, hjl, by go_num, rfl, HMK.out, HTP2.out, owns_drewN (HOWN.out.alloc _) nq, HATA.out.nil ((Frm.refl [] _).drewN nq), (HF.out.alloc _).drewN nq⟩
       case measure => omega
      ·have hxb : (x == (r : Int) + 1) = false := by simpa using hxr
       have HMK2 : Hid (Mk l.length (r + 1) (seen.set m (((r + 1 : Nat)) : Int)) (out ++ [m])) := Lib.hid (HMK.out.add hml (by rw [HX.out]; push_cast; exact hxr))
       have HTP2 := Lib.hid (HTP.out.add (out2 := out ++ [m]) HARC.out (fun v => by simp [or_comm]))
       go_wp2_with fail
       go_quiet (fail)
       go_wp2_with fail
       go_region
       have hsne : ∀ q, (Value.slice a7 out.length c7).ownBlock = some q → q ≠ gs := fun q hq => by
        have := (HOWN.out.lt q hq).1
        omega
       have HOWNS := Lib.hid (own_setv (i := m) (u := .int .i64 ((r : Int) + 1)) (p := gs) (owns_drewN (HOWN.out.alloc (.cells #[.int .i64 e, .int .i64 (m : Int)] 66)) (nq + 1)) hsne)
       have HATS := Lib.hid (((HATA.out).nil ((Frm.refl [] (wr.alloc (.cells #[.int .i64 e, .int .i64 (m : Int)] 66))).drewN (nq + 1))).mark hml ((r : Int) + 1) (by push_cast; rfl))
       have HFS := Lib.hid (((HF.out.alloc (.cells #[.int .i64 e, .int .i64 (m : Int)] 66)).drewN (nq + 1)).setCell (p := ⟨gs, m, none⟩) (.inl (by simp)) (.int .i64 ((r : Int) + 1)))
       go_wp2_with (first | (at_builtin; refine wpl_app_int rfl (.tmp 68) (.tmp 71) rfl w.heap.size out.length (out.length + 1) (.slice a7 out.length c7) (natI out) rfl (HOWNS.out.alloc _) (natI_len _) ⟨wr.heap.size + 1, 0, none⟩ 1 1 [(m : Int)] rfl rfl (cells_new_at _ (m : Int) _ _ (by simp [World.setCell])) rfl (by omega) (by simp [World.setCell]; omega) ?_) | (at_builtin; fail))
       intro a9 c9 w9 hown9 _ hf9
       have hown9' : w9.ownsRow w.heap.size 3 1 (.slice a9 (out ++ [m]).length c9) (out ++ [m]).length (ints (natI (out ++ [m]))) := by
        rw [List.length_append, natI, List.map_append]
        exact hown9
       have HOWN9 := Lib.hid hown9'
       have HF9 := Lib.hid (hf9 [wb, gs] w (fun q hq => .inr (HOWN.out.lt q hq).1) (HFS.out.alloc _))
       have hfo := hf9 (Value.slice a7 out.length c7).ownBlock.toList _ (fun q hq => .inl (by simp [hq])) (Frm.refl _ _)
       have hge := own_ge HOWN.out
       have HAT9 := Lib.hid ((HATS.out.nil ((Frm.refl [] _).alloc (.cells #[.int .i64 (m : Int)] 3))).frm hfo (fun hm => by have := hge _ hm; omega) (fun hm => by have := hge _ hm; omega))
       clear hown9 hf9 hown9' hfo hge hsne
       go_wp2_with fail
       go_roundg (row.length - (j + 1))
       case rel => exact ⟨j + 1, _, out ++ [m], a9, c9, rfl, hjl, by go_num, by rw [List.length_append]; rfl, HMK2.out, HTP2.out, HOWN9.out, HAT9.out, HF9.out⟩
       case measure => omega
     ·have heb : (e == ev) = false := by simpa using hee
      have HTP2 := Lib.hid (HTP.out.skip HARC.out hee)
      go_wp2_with fail
      go_quiet (fail)
      go_wp2_with fail
      go_roundg (row.length - (j + 1))
      case rel => exact ⟨j + 1, seen, out, a7, c7, rfl, hjl, by go_num, rfl, HMK.out, HTP2.out, owns_drewN (HOWN.out.alloc _) nq, HATA.out.nil ((Frm.refl [] _).drewN nq), (HF.out.alloc _).drewN nq⟩
      case measure => omega
    ·have i10 : ¬ (j : Int) < (row.length : Int) := by omega
     have HTD2 := Lib.hid (HTP.out.next (by omega) HC.out HROW.out)
     go_wp2_with fail
     go_roundg (fr.length - (i + 1))
     case rel => exact ⟨i + 1, rfl, hil, by go_num, seen, out, a7, c7, rfl, HMK.out, HTD2.out, HOWN.out, HAT.out, HF.out⟩
     case measure => omega
  ·have i5 : ¬ (i : Int) < (fr.length : Int) := by omega
   have hfin := HTD.out.all (by omega)
   obtain ⟨vs, hvs, hvl, hasc, hmem⟩ := sorted_nat HMK.out.nd
   have HVS := Lib.hid hvs
   have HIA : Hid (IsAim l ev fr vs) := Lib.hid ⟨hasc, fun v => (hmem v).trans (hfin v)⟩
   have HVL := Lib.hid hvl
   clear hfin hvs hasc hmem hvl
   go_wp2_with fail
   refine (sort_any w.heap.size a1 cc1 out1.length (natI out1) wr HOWN.out (by omega)).mono ?_
   rintro e9 w9 ⟨⟨rfl, hown9⟩, hf9⟩
   rw [HVS.out] at hown9
   have hge := own_ge HOWN.out
   have HAT9 := Lib.hid (HAT.out.frm hf9 (fun hm => by have := hge _ hm; omega) (fun hm => by have := hge _ hm; omega))
   have HF9 := Lib.hid (HF.out.trans hf9 (fun q hq => .inr (hge q hq)))
   have HEND : Hid (TargEnd w.heap.size l ev fr w9 (.returned (.slice a1 out1.length cc1))) := Lib.hid ⟨a1, cc1, vs, by rw [HVL.out], by rw [HVL.out]; exact hown9, HIA.out⟩
   clear hown9 hf9 hge
   go_wp2_with fail
   go_ret
   exact ⟨HEND.out, ⟨seen1, HAT9.out⟩, HF9.out⟩

end Go.Proofs.YtikpcipkkhmcfaaGreat

/- Contract of Events of a Walker. -/
namespace Go.Proofs.YtikpcipkkhmcfaaGreat.Beh
open Go.Shelf Go.RowKit Go.Lib Go.Sort Go.Proofs.YtikpcipkkhmcfaaGreat Go.Proofs.YtikpcipkkhmcfaaGreat.Ind

theorem compact_up (zs : List Int) : ∀ m, m ≤ zs.length → Lib.compactUpTo zs.toArray m = compG (zs.take m)
 | 0, _ => rfl
 | m + 1, h => by
  have ih := compact_up zs m (by omega)
  obtain ⟨x, hx⟩ : ∃ x, zs[m]? = some x := ⟨_, List.getElem?_eq_getElem (by omega)⟩
  have hxe : zs.toArray[m]! = x := by
   rw [getElem!_pos _ m (by simpa using (by omega : m < zs.length))]
   have := (List.getElem?_eq_some_iff.1 hx).2
   simpa using this
  rw [Lib.compactUpTo_succ, take_snoc hx, compG_eq_snoc, ih, hxe]
  cases m with
  | zero => simp [Lib.keeps]
  | succ k =>
   obtain ⟨y, hy⟩ : ∃ y, zs[k]? = some y := ⟨_, List.getElem?_eq_getElem (by omega)⟩
   have hye : zs.toArray[k]! = y := by
    rw [getElem!_pos _ k (by simpa using (by omega : k < zs.length))]
    have := (List.getElem?_eq_some_iff.1 hy).2
    simpa using this
   have hl : (zs.take (k + 1)).getLast? = some y := by rw [take_snoc hy]; simp
   rw [hl]
   by_cases e : y = x
   ·subst e
    rw [if_neg (by simp [Lib.keeps, hxe, hye]), if_pos rfl, List.append_nil]
   ·rw [if_pos (by simp only [Lib.keeps, hxe, Nat.add_sub_cancel, hye]; simp; exact fun h => e h.symm), if_neg (fun h => e (by cases h; rfl))]
theorem compact_eq (zs : List Int) : Lib.compact zs = compG zs := by
 have := compact_up zs zs.length (Nat.le_refl _)
 rw [List.take_length] at this
 exact this
theorem compG_le {α : Type} [DecidableEq α] : ∀ (l : List α), (compG l).length ≤ l.length
 | [] => by simp [compG]
 | [a] => by simp [compG]
 | a :: b :: r => by
  have ih := compG_le (b :: r)
  rw [compG]
  split
  ·simp only [List.length_cons] at *; omega
  ·simp only [List.length_cons] at *; omega
def CpIEnd (w : World) (B : Nat) (a : Option Addr) (cap n : Nat) (xs : List Int) (e : Ending) (w' : World) : Prop :=
 e = .returned (.slice a (compG xs).length cap) ∧ w'.ownsRow B 3 1 (.slice a (compG xs).length cap) (compG xs).length (ints (compG xs)) ∧ Frm (Value.slice a n cap).ownBlock.toList w w'
theorem sortI_any (B : Nat) (a : Option Addr) (cap n : Nat) (xs : List Int) (w : World) (h : w.ownsRow B 3 1 (.slice a n cap) n (ints xs)) (hn : n < 4611686018427387904) :
  Calls Tryz.prog 90 #[.slice a n cap] w fun e w' => (e = .returned (.tuple #[]) ∧ w'.ownsRow B 3 1 (.slice a n cap) n (ints (xs.mergeSort fun x y => decide (x ≤ y)))) ∧ Frm (Value.slice a n cap).ownBlock.toList w w' := by
 have hl : xs.length = n := by have := h.1; rw [ints_len] at this; omega
 subst hl
 rcases h.2 with ⟨h0, h1⟩ | ⟨g, cp, cur, h0, hb, hg, h1, h2, h3, h4⟩
 ·have hx : xs = [] := List.eq_nil_of_length_eq_zero h1
  subst hx
  refine (Tryz.slices_Sort_int_none a cap w).mono ?_
  rintro e w' ⟨rfl, rfl⟩
  refine ⟨⟨rfl, ?_⟩, Frm.refl _ _⟩
  rw [List.mergeSort_nil]
  exact h
 ·obtain ⟨rfl, rfl⟩ : a = some ⟨g, 0, none⟩ ∧ cap = cp := by simpa using h0
  rw [Nat.mul_one] at h4
  refine (Tryz.slices_Sort_int g 0 cap xs w (holds_of_blockI hg h4) (Array.getElem?_eq_some_iff.1 hg).1 hn).mono ?_
  rintro e w' ⟨rfl, k, os, rfl⟩
  refine ⟨⟨rfl, ?_⟩, ?_⟩
  ·exact ownsRow_sortedI (List.length_mergeSort _) hb hg h1 h2 h3
  ·exact (Frm.refl _ w).grown (grownBy_sortedI _) (fun q hq => .inl (by simpa [Value.ownBlock] using hq.symm))
theorem compactI_any (B : Nat) (a : Option Addr) (cap n : Nat) (xs : List Int) (w : World) (h : w.ownsRow B 3 1 (.slice a n cap) n (ints xs)) (hn : n < 4611686018427387904) :
  Calls Tryz.prog 92 #[.slice a n cap] w (CpIEnd w B a cap n xs) := by
 have hl : xs.length = n := by have := h.1; rw [ints_len] at this; omega
 subst hl
 by_cases hx : xs = []
 ·subst hx
  refine (Tryz.slices_Compact_int_empty a cap w).mono ?_
  rintro e w' ⟨rfl, rfl⟩
  exact ⟨rfl, h, Frm.refl _ _⟩
 ·have h0 : 0 < xs.length := List.length_pos_iff.2 hx
  rcases h.2 with ⟨_, h1⟩ | ⟨g, cp, cur, e0, hb, hg, h1, h2, h3, h4⟩
  ·omega
  ·obtain ⟨rfl, rfl⟩ : a = some ⟨g, 0, none⟩ ∧ cap = cp := by simpa using e0
   rw [Nat.mul_one] at h4
   have hle : (compG xs).length ≤ xs.length := compG_le xs
   refine (Tryz.slices_Compact_int g 0 cap xs w (holds_of_blockI hg h4) (by omega) h1).mono ?_
   rintro e w' ⟨rfl, q, rfl⟩
   rw [compact_eq]
   have hw : putRow (Value.int .i64) (Sort.ahead w q) g 0 (compG xs ++ List.replicate (xs.length - (compG xs).length) 0).toArray = sortWorld (Value.int .i64) w g 0 q (compG xs ++ List.replicate (xs.length - (compG xs).length) 0).toArray #[] := by
    unfold sortWorld
    rw [grow_empty]
   rw [hw]
   refine ⟨rfl, ?_, ?_⟩
   ·have h5 := owns_sortedE (enc := Value.int .i64) (w := w) (m := q) (os := #[]) (cap := cap) (n := xs.length) (compG xs ++ List.replicate (xs.length - (compG xs).length) 0) (by simp; omega) hb hg h1 h2 h3
    have h6 := owns_cut h5 hle h0
    rw [Nat.mul_one, List.map_append, List.take_left' (by simp)] at h6
    exact h6
   ·have h9 : Frm [g] w (sortWorld (Value.int .i64) w g 0 q (compG xs ++ List.replicate (xs.length - (compG xs).length) 0).toArray #[]) := frm_sortedE _
    exact h9
theorem sorted_set (xs : List Int) : compG (xs.mergeSort fun x y => decide (x ≤ y)) = setG (fun a b : Int => decide (a < b)) xs := by
 have hs : (xs.mergeSort fun x y => decide (x ≤ y)).Pairwise (fun x y => decide (y < x) = false) :=
  (List.pairwise_mergeSort (le := fun x y : Int => decide (x ≤ y)) (fun a b c h1 h2 => by simp at *; omega) (fun a b => by simp; omega) xs).imp (fun h => by simp at *; omega)
 refine asc_uniq sto_int (asc_compG sto_int hs) (setG_asc sto_int xs) (fun x => ?_)
 rw [mem_compG, mem_setG sto_int]
 exact (List.mergeSort_perm xs _).mem_iff

/-! The walk. -/
def EvEnd (B : Nat) (l : Lts) (fr : List Nat) (w' : World) (e : Ending) : Prop :=
 ∃ (a : Option Addr) (c : Nat), e = .returned (.slice a (evN l fr).length c) ∧ w'.ownsRow B 3 1 (.slice a (evN l fr).length c) (evN l fr).length (ints (evN l fr))
theorem visL_snoc {l : Lts} {fr : List Nat} {i c : Nat} {row : List Arc} (h : fr[i]? = some c) (hr : l[c]? = some row) : visL l (fr.take (i + 1)) = visL l (fr.take i) ++ visR row := by
 rw [take_snoc h, visL, visL, List.flatMap_append, List.flatMap_cons, List.flatMap_nil, List.append_nil, List.getD_eq_getElem?_getD, hr]; rfl
theorem visR_snoc {row : List Arc} {j : Nat} {e t : Int} (h : row[j]? = some (e, t)) : visR (row.take (j + 1)) = if e = 0 then visR (row.take j) else visR (row.take j) ++ [e] := by
 rw [take_snoc h, visR, visR, List.filter_append, List.map_append]
 by_cases he : e = 0 <;> simp [he]
theorem visR_len (row : List Arc) : (visR row).length ≤ row.length := by
 rw [visR, List.length_map]; exact List.length_filter_le _ _
theorem visL_len {l : Lts} (hv : VLts l) : ∀ (fr : List Nat), (visL l fr).length ≤ fr.length * 262144
 | [] => by simp [visL]
 | v :: r => by
  have ih := visL_len hv r
  have h1 := visR_len (l.getD v [])
  have h2 := (row_ok hv v).few
  rw [visL, List.flatMap_cons, List.length_append, List.length_cons]
  rw [visL] at ih
  omega
set_option linter.unusedSimpArgs false in
set_option maxRecDepth 100000 in
set_option maxHeartbeats 4000000 in
theorem wev_any (B wb gs : Nat) (a : Option Addr) (cap : Nat) (l : Lts) (r : Nat) (seen0 : List Int) (fa : Option Addr) (fc : Nat) (fr : List Nat) (w : World) (hv : validB l = true) (hw : WkAt B w wb gs a cap l.length r seen0)
  (h0 : LAt B w a cap l) (hf0 : Rd w.heap.size w fa fr.length fc 1 (ints (natI fr))) (hfl : ∀ v ∈ fr, v < l.length) (hfn : fr.length ≤ 16384) :
  Calls Tryz.prog 59 #[.pointer (some ⟨wb, 0, none⟩), .slice fa fr.length fc] w fun e w' => EvEnd w.heap.size l fr w' e ∧ Frm [] w w' := by
 have HL0 := Lib.hid h0
 have HF0 := Lib.hid hf0
 have HFL := Lib.hid hfl
 have hV := vlts_of hv
 have HV := Lib.hid hV
 have hfew := hV.few
 have i2 : (l.length : Int) ≤ 16384 := by omega
 have hfrl := hf0.lt
 have c0 := hw.row.cell (i := 0) rfl
 have C0 := Lib.hid c0
 clear h0 hf0 hfl hw hv hV c0
 go_enter Tryz.func59, Tryz.ntmps59
 go_wp2_with fail
 go_loopg [5, 12] fr.length (fun q s5 s12 wr => ∃ (i : Nat) (a5 : Option Addr) (c5 : Nat), q = fr.length - i ∧ i ≤ fr.length ∧ s12 = .int .i64 (i : Int) ∧ s5 = .slice a5 (visL l (fr.take i)).length c5 ∧ Sep w wr [ownC 3 1 (.slice a5 (visL l (fr.take i)).length c5) (visL l (fr.take i)).length (ints (visL l (fr.take i)))])
 case atStart => exact ⟨0, none, 0, rfl, Nat.zero_le _, rfl, rfl, (Sep.start w).add (ownC 3 1 (.slice none 0 0) 0 []) (Frm.refl _ _) (ownC_nil _ _ _) (by simp [ownC, Value.ownBlock])⟩
 case round =>
  obtain ⟨i, a5, c5, hq, hi, rfl, rfl, hS⟩ := hrel
  have HQ := Lib.hid hq
  have S := Lib.hid hS
  have i4 : (0 : Int) ≤ (i : Int) := by omega
  have hvl := visL_len HV.out (fr.take i)
  rw [List.length_take, Nat.min_eq_left hi] at hvl
  clear hq hS
  by_cases hil : i < fr.length
  ·have i5 : (i : Int) < (fr.length : Int) := by omega
   obtain ⟨c, hc⟩ : ∃ c, fr[i]? = some c := ⟨_, List.getElem?_eq_getElem hil⟩
   have hcl := HFL.out c (List.mem_of_getElem? hc)
   obtain ⟨fb, fo, rfl, hfb, cf0⟩ := HF0.out.at (natI_get hc)
   have cf := S.out.frm.cell cf0 (by simp)
   obtain ⟨row, hrow⟩ : ∃ row, l[c]? = some row := ⟨_, List.getElem?_eq_getElem hcl⟩
   obtain ⟨bl, ol, ra, rc, hla, hblB, q1, hrr⟩ := HL0.out.cell c row hrow
   have hla' := hla
   subst hla'
   have hfewr := (HV.out.row row (List.mem_of_getElem? hrow)).few
   have q2 := S.out.frm.cell q1 (by simp)
   have HRR := Lib.hid hrr
   have i6 : (row.length : Int) ≤ 262144 := by omega
   have i7 : (0 : Int) ≤ (c : Int) := by omega
   have i8 : (c : Int) < (l.length : Int) := by omega
   have b0 := S.out.frm.cell C0.out (by simp)
   have HSN := Lib.hid (visL_snoc hc hrow)
   obtain ⟨V, hV⟩ : ∃ V, V = visL l (fr.take i) := ⟨_, rfl⟩
   rw [← hV] at S hvl HSN ⊢
   have HV9 := Lib.hid hV
   clear hc hrow hrr q1 hla cf0 hV
   go_wp2_with fail
   go_loopg [5, 25] row.length (fun q s5 s25 wr => ∃ (j : Nat) (a5 : Option Addr) (c5 : Nat), q = row.length - j ∧ j ≤ row.length ∧ s25 = .int .i64 (j : Int) ∧ s5 = .slice a5 (V ++ visR (row.take j)).length c5 ∧ Sep w wr [ownC 3 1 (.slice a5 (V ++ visR (row.take j)).length c5) (V ++ visR (row.take j)).length (ints (V ++ visR (row.take j)))])
   case atStart => exact ⟨0, a5, c5, rfl, Nat.zero_le _, rfl, by rw [List.take_zero, visR, List.filter_nil, List.map_nil, List.append_nil], by rw [List.take_zero, visR, List.filter_nil, List.map_nil, List.append_nil]; exact S.out⟩
   case round =>
    clear S q2 b0 cf
    obtain ⟨j, a6, c6, hq2, hj, rfl, rfl, hS⟩ := hrel
    have HQ2 := Lib.hid hq2
    have S := Lib.hid hS
    have i9 : (0 : Int) ≤ (j : Int) := by omega
    clear hq2 hS
    by_cases hjl : j < row.length
    ·have i10 : (j : Int) < (row.length : Int) := by omega
     obtain ⟨⟨e, t⟩, harc⟩ : ∃ y, row[j]? = some y := ⟨_, List.getElem?_eq_getElem hjl⟩
     obtain ⟨g3, o3, rfl, hg3, p1, p2⟩ := HRR.out.2.2.2 j e t harc
     have d1 := S.out.frm.cell p1 (by simp)
     have d2 := S.out.frm.cell p2 (by simp)
     have n1 := World.block_lt_of_cell? _ _ d1
     simp only at n1
     have HSR := Lib.hid (visR_snoc harc)
     have hrl := visR_len (row.take j)
     rw [List.length_take, Nat.min_eq_left hj] at hrl
     obtain ⟨m, hm⟩ : ∃ m, m = (V ++ visR (row.take j)).length := ⟨_, rfl⟩
     have hmb : m ≤ 4831838208 := by rw [hm, List.length_append]; omega
     rw [← hm] at S ⊢
     have HM := Lib.hid hm
     have S2 := Lib.hid (S.out.nil ((Frm.refl [] wr).alloc (.cells #[.int .i64 e, .int .i64 t] 66)))
     clear harc p1 p2 hrl hm
     by_cases he : e = 0
     ·subst he
      have hsr := HSR.out
      rw [if_pos rfl] at hsr
      have HR := Lib.hid hsr
      clear hsr
      go_wp2_with fail
      go_roundg (row.length - (j + 1))
      case rel =>
       refine ⟨j + 1, a6, c6, rfl, hjl, by go_num, ?_, ?_⟩
       ·rw [HR.out, ← HM.out]
       ·rw [HR.out, ← HM.out]; exact S2.out
      case measure => have := HQ2.out; omega
     ·have jn : (e != 0) = true := by simpa using he
      have hsr := HSR.out
      rw [if_neg he] at hsr
      have HR := Lib.hid hsr
      clear hsr he
      go_wp2_with (first
       | (at_builtin; refine app_rowB rfl (.tmp 32) (.tmp 35) 22 3 _ 1 8 rfl Tryz.underlying22 infoInt rfl (by decide) 0 m (.slice a6 m c6) (ints (V ++ visR (row.take j))) rfl ((S2.out.nil ((Frm.refl [] _).alloc (.cells #[.int .i64 e] 3))).at_ 0 rfl) _ 1 [.int .i64 e] [] rfl (rowV_cells (size := 1) (row_made1 wr (.cells #[.int .i64 e, .int .i64 t] 66) 3 [.int .i64 e] #[.int .i64 e] rfl) rfl (Nat.le_refl _) (by decide) (by simp)) (by simp [Value.oneCell']) (m + 1) rfl (by omega) (by omega) (Nat.zero_le _) ?_; intro a11 c11 w11 own11 hf11 hb11; have S11 := Lib.hid ((S2.out.nil ((Frm.refl [] _).alloc (.cells #[.int .i64 e] 3))).step 0 (ownC 3 1 (.slice a11 (m + 1) c11) (m + 1) (ints (V ++ visR (row.take j)) ++ [Value.int .i64 e])) rfl hf11 (fun k hk => .inl hk) own11 (fresh_own hb11)); clear own11 hf11 hb11)
       | fail)
      go_roundg (row.length - (j + 1))
      case rel =>
       have e9 : ints (V ++ visR (row.take (j + 1))) = ints (V ++ visR (row.take j)) ++ [.int .i64 e] := by
        rw [HR.out, ← List.append_assoc, ints, ints, List.map_append]; rfl
       have e8 : (V ++ visR (row.take (j + 1))).length = m + 1 := by
        rw [HR.out, ← List.append_assoc, List.length_append, ← HM.out]; rfl
       refine ⟨j + 1, a11, c11, rfl, hjl, by go_num, ?_, ?_⟩
       ·rw [e8]
       ·rw [e8, e9]; exact S11.out
      case measure => have := HQ2.out; omega
    ·have i10 : ¬ (j : Int) < (row.length : Int) := by omega
     have htk : row.take j = row := List.take_of_length_le (by omega)
     rw [htk, ← HSN.out] at S ⊢
     go_wp2_with fail
     go_roundg (fr.length - (i + 1))
     case rel => exact ⟨i + 1, a6, c6, rfl, hil, by go_num, rfl, S.out⟩
     case measure => have := HQ.out; omega
  ·have i5 : ¬ (i : Int) < (fr.length : Int) := by omega
   have htk : fr.take i = fr := List.take_of_length_le (by omega)
   rw [htk] at S hvl ⊢
   obtain ⟨m, hm⟩ : ∃ m, m = (visL l fr).length := ⟨_, rfl⟩
   rw [← hm] at S hvl ⊢
   have hown : wr.ownsRow w.heap.size 3 1 (.slice a5 m c5) m (ints (visL l fr)) := by
    have h1 := S.out.at_ 0 rfl
    refine ownsB_raise h1 (fun k hk => S.out.le 0 rfl (by simp [ownC, hk]))
   have hso := sortI_any w.heap.size a5 c5 m (visL l fr) wr hown (by omega)
   obtain ⟨X, hX⟩ : ∃ X, X = (visL l fr).mergeSort fun x y => decide (x ≤ y) := ⟨_, rfl⟩
   rw [← hX] at hso
   have HX := Lib.hid hX
   have HSO := Lib.hid hso
   have HFR := Lib.hid S.out.frm
   have HEV : Hid (compG ((visL l fr).mergeSort fun x y => decide (x ≤ y)) = evN l fr) := Lib.hid (sorted_set _)
   have HGE : Hid (∀ k ∈ (Value.slice a5 m c5).ownBlock.toList, w.heap.size ≤ k) := Lib.hid fun k hk => (hown.lt k (by simpa using hk)).1
   have HM := Lib.hid hm
   clear hso hown htk S hX hm
   go_wp2_with fail
   refine HSO.out.mono ?_
   rintro e6 w6 ⟨⟨rfl, own6⟩, hf6⟩
   have hcp := compactI_any w.heap.size a5 c5 m _ w6 own6 (by omega)
   unfold CpIEnd at hcp
   rw [HX.out, HEV.out] at hcp
   have HCP := Lib.hid hcp
   have HF6 := Lib.hid (HFR.out.trans hf6 (fun k hk => .inr (HGE.out k hk)))
   clear hcp own6 hf6 HSO
   go_wp2_with fail
   refine HCP.out.mono ?_
   rintro e7 w7 ⟨rfl, own7, hf7⟩
   go_wp2_with fail
   go_ret
   exact ⟨⟨a5, c5, rfl, own7⟩, HF6.out.trans hf7 (fun k hk => .inr (HGE.out k hk))⟩
end Go.Proofs.YtikpcipkkhmcfaaGreat.Beh
