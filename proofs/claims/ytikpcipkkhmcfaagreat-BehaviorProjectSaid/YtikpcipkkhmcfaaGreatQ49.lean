/- behavior.Project. -/
import Derived.Test.YtikpcipkkhmcfaaGreatQ48
import Derived.Test.YtikpcipkkhmcfaaGreatQ35
import Derived.Test.YtikpcipkkhmcfaaGreatQ02
import Derived.Test.YtikpcipkkhmcfaaGreatQ22
import Derived.Deep.DeepCutAuto
namespace Go.Proofs.YtikpcipkkhmcfaaGreat.Beh
open Go.Shelf Go.RowKit Go.Lib Go.Sort Go.Maps Go.Proofs.YtikpcipkkhmcfaaGreat Go.Proofs.YtikpcipkkhmcfaaGreat.Ind

/-- Entries that the call has put into a row of its own. -/
structure OutE (B : Nat) (w : World) (a : Option Addr) (c : Nat) (qs : List EV) : Prop where
 own : w.ownsRow B 69 3 (.slice a qs.length c) qs.length (qs.flatMap enE)
 ents : ∀ p ∈ qs, EntAt w (Value.slice a qs.length c).ownBlock.toList p
theorem OutE.start (B : Nat) (w : World) : OutE B w none 0 [] := ⟨World.ownsRow_nil _ _ _ _, fun p hp => by cases hp⟩
theorem OutE.nil {B : Nat} {w w' : World} {a : Option Addr} {c : Nat} {qs : List EV} (h : OutE B w a c qs) (hf : Frm [] w w') : OutE B w' a c qs := ⟨ownsB_frm h.own hf (by simp), fun p hp => (h.ents p hp).nil hf⟩
theorem OutE.push {B : Nat} {w w5 w6 w9 : World} {a a9 : Option Addr} {c c9 q n : Nat} {qs : List EV} {p : EV} (h : OutE B w a c qs) (hl : qs.length = n) (hq : w.heap.size ≤ q) (f5 : Frm [] w w5) (hp : EntAt w5 (q :: (Value.slice a n c).ownBlock.toList) p) (f6 : Frm [q] w5 w6)
  (own9 : w9.ownsRow B 69 3 (.slice a9 (n + 1) c9) (n + 1) (qs.flatMap enE ++ enE p)) (hf9 : Frm (Value.slice a n c).ownBlock.toList w6 w9) (hb9 : ∀ k, (Value.slice a9 (n + 1) c9).ownBlock = some k → (Value.slice a n c).ownBlock = some k ∨ k = w6.heap.size) : OutE B w9 a9 c9 (qs ++ [p]) := by
 subst hl
 have hlen : (qs ++ [p]).length = qs.length + 1 := by simp
 have s5 := f5.size
 have s6 := f6.size
 have hk9 : ∀ k ∈ (Value.slice a9 (qs.length + 1) c9).ownBlock.toList, k ∈ (Value.slice a qs.length c).ownBlock.toList ∨ w6.heap.size ≤ k := fun k hk => by
  rcases hb9 k (by simpa using hk) with h9 | h9
  ·exact .inl (by simpa using h9)
  ·exact .inr (by omega)
 refine ⟨by rw [hlen, List.flatMap_append, List.flatMap_cons, List.flatMap_nil, List.append_nil]; exact own9, fun x hx => ?_⟩
 rw [hlen]
 rcases List.mem_append.1 hx with h9 | h9
 ·have ff : Frm (Value.slice a qs.length c).ownBlock.toList w w9 := ((f5.trans f6 (fun k hk => .inr (by simp at hk; omega))).mono (by simp)).trans hf9 (fun k hk => .inl hk)
  exact (h.ents x h9).step ff (fun k hk => .inl hk) (fun k hk => (hk9 k hk).imp id (fun h8 => by omega))
 ·rw [List.mem_singleton.1 h9]
  have ff : Frm (q :: (Value.slice a qs.length c).ownBlock.toList) w5 w9 := (f6.mono (fun k hk => by simp at hk; simp [hk])).trans hf9 (fun k hk => .inl (List.mem_cons_of_mem _ hk))
  exact hp.step ff (fun k hk => .inl hk) (fun k hk => (hk9 k hk).imp (fun h8 => List.mem_cons_of_mem _ h8) (fun h8 => by omega))
theorem OutE.beh {B : Nat} {w : World} {a : Option Addr} {c : Nat} {qs : List EV} (h : OutE B w a c qs) : BehAt w [] (.slice a (qs.map (·.2)).length c) (qs.map (·.2)) :=
 ⟨qs, rfl, by rw [List.length_map]; exact rowV_of_owns h.own (by simp), fun p hp => (h.ents p hp).less (by simp)⟩
/-- What Project answers. -/
noncomputable def projRes (b : List En) (m : Int) : Int × List En := if (vbB b && modB m) = true then (0, projB b m) else (1, [])
def ProjEnd (b : List En) (m : Int) (w : World) (e : Ending) (w' : World) : Prop := (∃ a c, e = .returned (.tuple #[.slice a (projRes b m).2.length c, .int .i64 (projRes b m).1]) ∧ BehAt w' [] (.slice a (projRes b m).2.length c) (projRes b m).2) ∧ Frm [] w w'
theorem projEnd_bad {b : List En} {m : Int} {w w' : World} (h : (vbB b && modB m) = false) (hf : Frm [] w w') : ProjEnd b m w (.returned (.tuple #[.slice none 0 0, .int .i64 1])) w' := by
 unfold ProjEnd projRes
 rw [h, if_neg (by simp)]
 exact ⟨⟨none, 0, rfl, [], rfl, RowV.nil0 _ _ _, by simp⟩, hf⟩
theorem projEnd_ok {b : List En} {m : Int} {w w' : World} {B : Nat} {a : Option Addr} {c : Nat} {qs : List EV} (h : (vbB b && modB m) = true) (ho : OutE B w' a c qs) (hp : qs.map (·.2) = projB b m) (hf : Frm [] w w') : ProjEnd b m w (.returned (.tuple #[.slice a qs.length c, .int .i64 0])) w' := by
 unfold ProjEnd projRes
 rw [h, if_pos rfl]
 refine ⟨⟨a, c, ?_, ?_⟩, hf⟩
 ·show _ = Ending.returned (.tuple #[.slice a (projB b m).length c, .int .i64 0])
  rw [← hp, List.length_map]
 ·show BehAt w' [] (.slice a (projB b m).length c) (projB b m)
  rw [← hp]
  exact ho.beh
/-- The first i entries projected. -/
def projT (b : List En) (m : Int) (i : Nat) : List En := ((b.take i).filter fun x => !(decide (m = 3) && beyondB b x.1)).map (projE m)
theorem projT_keep {b : List En} {m : Int} {i : Nat} {x : En} (h : b[i]? = some x) (hd : (decide (m = 3) && beyondB b x.1) = false) : projT b m (i + 1) = projT b m i ++ [projE m x] := by
 unfold projT
 rw [take_snoc h, List.filter_append, List.map_append, List.filter_cons, hd]
 rfl
theorem projT_drop {b : List En} {m : Int} {i : Nat} {x : En} (h : b[i]? = some x) (hd : (decide (m = 3) && beyondB b x.1) = true) : projT b m (i + 1) = projT b m i := by
 unfold projT
 rw [take_snoc h, List.filter_append, List.map_append, List.filter_cons, hd]
 simp
theorem projT_len (b : List En) (m : Int) (i : Nat) : (projT b m i).length ≤ i := by
 unfold projT
 rw [List.length_map]
 exact Nat.le_trans (List.length_filter_le ..) (List.length_take_le ..)
theorem projT_all {b : List En} {m : Int} {i : Nat} (h : b.length ≤ i) : projT b m i = projB b m := by
 unfold projT projB
 rw [List.take_of_length_le h]
theorem enE_one1 (ta la : Option Addr) (n tc k lc : Nat) (d : Bool) : ∀ u ∈ [Value.slice ta n tc, .slice la k lc, .bool d], u.oneCell' = true := by
 intro u hu
 simp at hu
 rcases hu with rfl | rfl | rfl <;> rfl
set_option linter.unusedSimpArgs false in
set_option maxRecDepth 100000 in
set_option maxHeartbeats 8000000 in
theorem project_any {F : List Nat} (w : World) (v : Value) (b : List En) (m : Int) (h : BehAt w F v b) (hfit : Fits b) (hn : b.length ≤ 1000000) :
  Calls Tryz.prog 32 #[v, .int .i64 m] w (ProjEnd b m w) := by
 have l1 := beh_few h
 obtain ⟨va, vc, rfl⟩ := h.shape
 have HK := Lib.hid (known_any m w)
 have HVA : Hid (∀ W, Frm [] w W → Calls Tryz.prog 22 #[.slice va b.length vc] W fun e w' => e = .returned (.bool (vbB b)) ∧ Frm [] W w') := Lib.hid fun W hf => validB_any W _ b (h.nil hf) hfit
 have H := Lib.hid h
 have HFIT := Lib.hid hfit
 clear h hfit
 cases hmk : modB m with
 | false =>
  rw [hmk] at HK
  have HBAD : Hid ((vbB b && modB m) = false) := Lib.hid (by rw [hmk, Bool.and_false])
  clear hmk
  go_enter Tryz.func32, Tryz.ntmps32
  go_wp2_with (first | (go_at_call 62; refine HK.out.mono ?_; rintro e1 w1 ⟨rfl, hf1⟩) | fail)
  go_ret2
  exact projEnd_bad HBAD.out hf1
 | true =>
 rw [hmk] at HK
 cases hvb : vbB b with
 | false =>
  have HBAD : Hid ((vbB b && modB m) = false) := Lib.hid (by rw [hvb, Bool.false_and])
  rw [hvb] at HVA
  clear hmk hvb
  go_enter Tryz.func32, Tryz.ntmps32
  go_wp2_with (first | (go_at_call 62; refine HK.out.mono ?_; rintro e1 w1 ⟨rfl, hf1⟩) | (go_at_call 22; refine (HVA.out _ hf1).mono ?_; rintro e2 w2 ⟨rfl, hf2⟩) | fail)
  go_ret2
  exact projEnd_bad HBAD.out (hf1.trans hf2 (by simp))
 | true =>
 have HOK : Hid ((vbB b && modB m) = true) := Lib.hid (by rw [hvb, hmk]; rfl)
 have HVB := Lib.hid (vbB_iff.1 hvb)
 have HMK := Lib.hid hmk
 rw [hvb] at HVA
 clear hmk hvb
 go_enter Tryz.func32, Tryz.ntmps32
 go_wp2_with (first
  | (go_at_call 62; refine HK.out.mono ?_; rintro e1 w1 ⟨rfl, hf1⟩)
  | (go_at_call 22; refine (HVA.out _ hf1).mono ?_; rintro e2 w2 ⟨rfl, hf2⟩; have f2 := hf1.trans hf2 (by simp))
  | (go_at_call 47; refine (index_any w2 _ b (H.out.nil f2) HVB.out.tr).mono ?_; rintro e3 w3 ⟨tm, rfl, S3⟩; have f3 := f2.trans S3.frm (by simp))
  | (go_at_call 64; refine (covered_any w3 _ b tm (H.out.nil f3) HVB.out (S3.at_ 0 rfl) hn).mono ?_; rintro e4 w4 ⟨rfl, own4, hf4⟩; have f4 := f3.trans hf4 (by simp))
  | fail)
 have F4 := Lib.hid f4
 have HCV := Lib.hid (rowV_of_owns (F := []) own4 (by simp))
 have gcl := own4.lt w3.heap.size rfl
 have HFW4 : Hid (Frm [] w w4) := F4
 clear f4 f3 f2 hf1 hf2 hf4 S3 own4 HK HVA
 have hnn : (b.length : Int) ≤ 1000000 := by omega
 go_loopg [7, 24] b.length (fun q t7 t24 wr => ∃ (i : Nat) (a : Option Addr) (c : Nat) (qs : List EV), q = b.length - i ∧ i ≤ b.length ∧ t24 = .int .i64 (i : Int) ∧ t7 = .slice a qs.length c ∧ OutE w4.heap.size wr a c qs ∧ qs.map (·.2) = projT b m i ∧ Frm [] w4 wr)
 case atStart => exact ⟨0, none, 0, [], rfl, Nat.zero_le _, rfl, rfl, OutE.start _ _, rfl, Frm.refl _ _⟩
 case round =>
  obtain ⟨i, a, c, qs, hq, hi, rfl, rfl, ho, hp, hF4⟩ := hrel
  have HQ := Lib.hid hq
  have HO := Lib.hid ho
  have HP := Lib.hid hp
  have HF : Hid (Frm [] w wr) := Lib.hid (F4.out.trans hF4 (by simp))
  have i4 : (0 : Int) ≤ (i : Int) := by omega
  have hqn : qs.length ≤ i := by
   have h1 := congrArg List.length hp
   rw [List.length_map] at h1
   have h2 := projT_len b m i
   omega
  by_cases hlt : i < b.length
  ·have i5 : (i : Int) < (b.length : Int) := by omega
   obtain ⟨x, hx⟩ : ∃ x, b[i]? = some x := ⟨_, List.getElem?_eq_getElem hlt⟩
   obtain ⟨b1, o1, d1, ta, tc, la, lc, e1, x0, x1, x2, xt, xl⟩ := H.out.at_ hx
   obtain ⟨rfl, rfl⟩ : va = some ⟨b1, o1, none⟩ ∧ vc = d1 := by simpa using e1
   have c0 := HF.out.cell x0 (by simp)
   have c1 : wr.cell? ⟨b1, o1 + i * 3 + 1, none⟩ = some (.slice la x.2.1.length lc) := by rw [Nat.add_assoc]; exact HF.out.cell x1 (by simp)
   have c2 : wr.cell? ⟨b1, o1 + i * 3 + 2, none⟩ = some (.bool x.2.2) := by rw [Nat.add_assoc]; exact HF.out.cell x2 (by simp)
   have HX := Lib.hid hx
   obtain ⟨hx1, hx2, hx3⟩ := HFIT.out x (List.mem_of_getElem? hx)
   have fB : Frm [] w (wr.alloc (.cells #[.slice ta x.1.length tc, .slice la x.2.1.length lc, .bool x.2.2] 69)) := HF.out.alloc _
   have hsz := HF.out.size
   have hFk : ∀ k ∈ wr.heap.size :: (Value.slice a qs.length c).ownBlock.toList, k ∈ F ∨ w.heap.size ≤ k := fun k hk => by
    rcases List.mem_cons.1 hk with rfl | hk
    ·exact .inr hsz
    ·exact .inr (Nat.le_trans HFW4.out.size (ho.own.lt k (by simpa using hk)).1)
   have hcp := copyEntry_any (F := wr.heap.size :: (Value.slice a qs.length c).ownBlock.toList) _ x ta la tc lc (xt.step fB (by simp) hFk) (xl.step fB (by simp) hFk) (fun k hk => by
    rcases List.mem_cons.1 hk with rfl | hk
    ·simp
    ·have := (ho.own.lt k (by simpa using hk)).2
     simp
     omega) hx1 hx2 hx3
   have HCP := Lib.hid hcp
   have HB9 := Lib.hid (RowAt.made wr 69 [.slice ta x.1.length tc, .slice la x.2.1.length lc, .bool x.2.2] #[.slice ta x.1.length tc, .slice la x.2.1.length lc, .bool x.2.2] rfl)
   obtain ⟨_, a4, c4, e4, _, _, _, hcell4⟩ := HCV.out
   obtain ⟨rfl, rfl⟩ : some (⟨w3.heap.size, 0, none⟩ : Addr) = a4 ∧ b.length = c4 := by simpa using e4
   obtain ⟨bb, oo, eo, _, _, cd⟩ := hcell4 i (.bool (beyondB b x.1)) (by rw [bools, List.getElem?_map, List.getElem?_map, List.getElem?_range hlt, ← covF_at hx]; rfl)
   obtain ⟨rfl, rfl⟩ : w3.heap.size = bb ∧ 0 = oo := by simpa using eo
   rw [Nat.zero_add] at cd
   have cd9 := hF4.cell cd (by simp)
   have CD : Hid (∀ W, Frm [] wr W → W.cell? ⟨w3.heap.size, i, none⟩ = some (.bool (beyondB b x.1))) := Lib.hid fun W hf => hf.cell cd9 (by simp)
   have FR4 := Lib.hid hF4
   have ne3 : ¬ w3.heap.size = wr.heap.size := by
    have := hF4.size
    omega
   have ne4 : ¬ wr.heap.size = w3.heap.size := fun e => ne3 e.symm
   clear hq ho hp hF4 hx xt xl x0 x1 x2 e1 fB hFk hcp hcell4 e4 eo cd hx1 hx2 hx3 cd9
   have hm3 : m = 1 ∨ m = 2 ∨ m = 3 := by
    have := HMK.out
    simp only [modB, Bool.or_eq_true, decide_eq_true_eq] at this
    exact this
   rcases hm3 with rfl | rfl | rfl
   ·go_upto_region 16 with (first | (go_at_call 65; refine HCP.out.mono ?_; rintro e5 w5 ⟨ta5, tc5, la5, lc5, rfl, r5, s5, hf5⟩; have rb := HB9.out.frm hf5 (by simp); have y0 := rb.cell (i := 0) rfl; have y1 := rb.cell (i := 1) rfl; have y2 := rb.cell (i := 2) rfl; have z0 := rb.frozen 0; have z1 := rb.frozen 1; have z2 := rb.frozen 2; have FR5 : Hid (Frm [] wr w5) := Lib.hid (((Frm.refl [] wr).alloc _).trans hf5 (by simp)); have cd5 := CD.out _ FR5.out) | fail)
    have fr9 : Frm [] wr (((((w5.setCell ⟨wr.heap.size, 0, none⟩ (.slice ta5 x.1.length tc5)).setCell ⟨wr.heap.size, 1, none⟩ (.slice la5 x.2.1.length lc5)).setCell ⟨wr.heap.size, 2, none⟩ (.bool x.2.2)).setCell ⟨wr.heap.size, 1, none⟩ (.slice none 0 0)).setCell ⟨wr.heap.size, 2, none⟩ (.bool false)) := (((((FR5.out.setCell (p := ⟨wr.heap.size, 0, none⟩) (.inr (Nat.le_refl _)) _).setCell (p := ⟨wr.heap.size, 1, none⟩) (.inr (Nat.le_refl _)) _).setCell (p := ⟨wr.heap.size, 2, none⟩) (.inr (Nat.le_refl _)) _).setCell (p := ⟨wr.heap.size, 1, none⟩) (.inr (Nat.le_refl _)) _).setCell (p := ⟨wr.heap.size, 2, none⟩) (.inr (Nat.le_refl _)) _)
    have f69 : Frm [wr.heap.size] w5 (((((w5.setCell ⟨wr.heap.size, 0, none⟩ (.slice ta5 x.1.length tc5)).setCell ⟨wr.heap.size, 1, none⟩ (.slice la5 x.2.1.length lc5)).setCell ⟨wr.heap.size, 2, none⟩ (.bool x.2.2)).setCell ⟨wr.heap.size, 1, none⟩ (.slice none 0 0)).setCell ⟨wr.heap.size, 2, none⟩ (.bool false)) := ((((((Frm.refl [wr.heap.size] w5).setCell (p := ⟨wr.heap.size, 0, none⟩) (.inl (by simp)) _).setCell (p := ⟨wr.heap.size, 1, none⟩) (.inl (by simp)) _).setCell (p := ⟨wr.heap.size, 2, none⟩) (.inl (by simp)) _).setCell (p := ⟨wr.heap.size, 1, none⟩) (.inl (by simp)) _).setCell (p := ⟨wr.heap.size, 2, none⟩) (.inl (by simp)) _)
    have rb9 := (((((rb.setCell 0 (.slice ta5 x.1.length tc5)).setCell 1 (.slice la5 x.2.1.length lc5)).setCell 2 (.bool x.2.2)).setCell 1 (.slice none 0 0)).setCell 2 (.bool false))
    simp only [List.set_cons_zero, List.set_cons_succ] at rb9
    have u0 := rb9.cell (i := 0) rfl
    have u1 := rb9.cell (i := 1) rfl
    have u2 := rb9.cell (i := 2) rfl
    clear rb rb9 y0 y1 y2 z0 z1 z2 cd5
    generalize (((((w5.setCell ⟨wr.heap.size, 0, none⟩ (.slice ta5 x.1.length tc5)).setCell ⟨wr.heap.size, 1, none⟩ (.slice la5 x.2.1.length lc5)).setCell ⟨wr.heap.size, 2, none⟩ (.bool x.2.2)).setCell ⟨wr.heap.size, 1, none⟩ (.slice none 0 0)).setCell ⟨wr.heap.size, 2, none⟩ (.bool false)) = W9 at *
    have FR9 := Lib.hid fr9
    have F69 := Lib.hid f69
    clear fr9 f69
    go_wp2_with (first | (at_builtin; refine app_rowB rfl (.tmp 49) (.tmp 51) 36 69 _ 3 56 rfl Tryz.underlying36 infoEnC rfl (by decide) w4.heap.size qs.length (.slice a qs.length c) (qs.flatMap enE) rfl (ownsB_frm HO.out.own (FR9.out.alloc _) (by simp)) _ 1 [.slice ta5 x.1.length tc5, .slice none 0 0, .bool false] [] rfl (rowV_cells (size := 3) (RowAt.made W9 69 [.slice ta5 x.1.length tc5, .slice none 0 0, .bool false] #[.slice ta5 x.1.length tc5, .slice none 0 0, .bool false] rfl) rfl (Nat.le_refl _) (by decide) (by simp)) (enE_one1 _ _ _ _ _ _ _) (qs.length + 1) rfl (by omega) (by omega) (Nat.le_trans FR4.out.size (FR9.out.alloc _).size) ?_; intro a9 c9 w9 own9 hf9 hb9) | fail)
    have hpe : projE 1 x = (x.1, [], false) := by simp [projE]
    have hnx : projT b 1 (i + 1) = projT b 1 i ++ [(x.1, [], false)] := by rw [← hpe]; exact projT_keep HX.out (by rfl)
    have hout := HO.out.push (p := (((.slice ta5 x.1.length tc5, .slice none 0 0), (x.1, [], false)) : EV)) rfl (Nat.le_refl _) FR5.out ⟨r5, [], rfl, RowV.nil0 _ _ _, fun p hp => (by cases hp)⟩ (F69.out.alloc _) own9 hf9 hb9
    obtain ⟨qs9, hq9⟩ : ∃ qs9, qs9 = qs ++ [(((.slice ta5 x.1.length tc5, .slice none 0 0), (x.1, [], false)) : EV)] := ⟨_, rfl⟩
    have hl9 : qs.length + 1 = qs9.length := by rw [hq9]; simp
    have hm9 : qs9.map (·.2) = projT b 1 (i + 1) := by rw [hq9, hnx, List.map_append, HP.out]; rfl
    rw [← hq9] at hout
    have HOUT := Lib.hid hout
    have HL9 := Lib.hid hl9
    have HM9 := Lib.hid hm9
    have HF9 := Lib.hid hf9
    clear hq9 hl9 hm9 hnx hpe hout own9 hf9 hb9
    go_roundg (b.length - (i + 1))
    case rel => exact ⟨i + 1, a9, c9, qs9, rfl, by omega, by go_num, by rw [HL9.out], HOUT.out, HM9.out, (FR4.out.trans (FR9.out.alloc _) (by simp)).trans HF9.out (fun k hk => .inr (HO.out.own.lt k (by simpa using hk)).1)⟩
    case measure => have := HQ.out; omega
   ·go_upto_region 16 with (first | (go_at_call 65; refine HCP.out.mono ?_; rintro e5 w5 ⟨ta5, tc5, la5, lc5, rfl, r5, s5, hf5⟩; have rb := HB9.out.frm hf5 (by simp); have y0 := rb.cell (i := 0) rfl; have y1 := rb.cell (i := 1) rfl; have y2 := rb.cell (i := 2) rfl; have z0 := rb.frozen 0; have z1 := rb.frozen 1; have z2 := rb.frozen 2; have FR5 : Hid (Frm [] wr w5) := Lib.hid (((Frm.refl [] wr).alloc _).trans hf5 (by simp)); have cd5 := CD.out _ FR5.out) | fail)
    have fr9 : Frm [] wr ((((w5.setCell ⟨wr.heap.size, 0, none⟩ (.slice ta5 x.1.length tc5)).setCell ⟨wr.heap.size, 1, none⟩ (.slice la5 x.2.1.length lc5)).setCell ⟨wr.heap.size, 2, none⟩ (.bool x.2.2)).setCell ⟨wr.heap.size, 2, none⟩ (.bool false)) := ((((FR5.out.setCell (p := ⟨wr.heap.size, 0, none⟩) (.inr (Nat.le_refl _)) _).setCell (p := ⟨wr.heap.size, 1, none⟩) (.inr (Nat.le_refl _)) _).setCell (p := ⟨wr.heap.size, 2, none⟩) (.inr (Nat.le_refl _)) _).setCell (p := ⟨wr.heap.size, 2, none⟩) (.inr (Nat.le_refl _)) _)
    have f69 : Frm [wr.heap.size] w5 ((((w5.setCell ⟨wr.heap.size, 0, none⟩ (.slice ta5 x.1.length tc5)).setCell ⟨wr.heap.size, 1, none⟩ (.slice la5 x.2.1.length lc5)).setCell ⟨wr.heap.size, 2, none⟩ (.bool x.2.2)).setCell ⟨wr.heap.size, 2, none⟩ (.bool false)) := (((((Frm.refl [wr.heap.size] w5).setCell (p := ⟨wr.heap.size, 0, none⟩) (.inl (by simp)) _).setCell (p := ⟨wr.heap.size, 1, none⟩) (.inl (by simp)) _).setCell (p := ⟨wr.heap.size, 2, none⟩) (.inl (by simp)) _).setCell (p := ⟨wr.heap.size, 2, none⟩) (.inl (by simp)) _)
    have rb9 := ((((rb.setCell 0 (.slice ta5 x.1.length tc5)).setCell 1 (.slice la5 x.2.1.length lc5)).setCell 2 (.bool x.2.2)).setCell 2 (.bool false))
    simp only [List.set_cons_zero, List.set_cons_succ] at rb9
    have u0 := rb9.cell (i := 0) rfl
    have u1 := rb9.cell (i := 1) rfl
    have u2 := rb9.cell (i := 2) rfl
    clear rb rb9 y0 y1 y2 z0 z1 z2 cd5
    generalize ((((w5.setCell ⟨wr.heap.size, 0, none⟩ (.slice ta5 x.1.length tc5)).setCell ⟨wr.heap.size, 1, none⟩ (.slice la5 x.2.1.length lc5)).setCell ⟨wr.heap.size, 2, none⟩ (.bool x.2.2)).setCell ⟨wr.heap.size, 2, none⟩ (.bool false)) = W9 at *
    have FR9 := Lib.hid fr9
    have F69 := Lib.hid f69
    clear fr9 f69
    go_wp2_with (first | (at_builtin; refine app_rowB rfl (.tmp 49) (.tmp 51) 36 69 _ 3 56 rfl Tryz.underlying36 infoEnC rfl (by decide) w4.heap.size qs.length (.slice a qs.length c) (qs.flatMap enE) rfl (ownsB_frm HO.out.own (FR9.out.alloc _) (by simp)) _ 1 [.slice ta5 x.1.length tc5, .slice la5 x.2.1.length lc5, .bool false] [] rfl (rowV_cells (size := 3) (RowAt.made W9 69 [.slice ta5 x.1.length tc5, .slice la5 x.2.1.length lc5, .bool false] #[.slice ta5 x.1.length tc5, .slice la5 x.2.1.length lc5, .bool false] rfl) rfl (Nat.le_refl _) (by decide) (by simp)) (enE_one1 _ _ _ _ _ _ _) (qs.length + 1) rfl (by omega) (by omega) (Nat.le_trans FR4.out.size (FR9.out.alloc _).size) ?_; intro a9 c9 w9 own9 hf9 hb9) | fail)
    have hpe : projE 2 x = (x.1, x.2.1, false) := by simp [projE]
    have hnx : projT b 2 (i + 1) = projT b 2 i ++ [(x.1, x.2.1, false)] := by rw [← hpe]; exact projT_keep HX.out (by rfl)
    have hout := HO.out.push (p := (((.slice ta5 x.1.length tc5, .slice la5 x.2.1.length lc5), (x.1, x.2.1, false)) : EV)) rfl (Nat.le_refl _) FR5.out ⟨r5, s5⟩ (F69.out.alloc _) own9 hf9 hb9
    obtain ⟨qs9, hq9⟩ : ∃ qs9, qs9 = qs ++ [(((.slice ta5 x.1.length tc5, .slice la5 x.2.1.length lc5), (x.1, x.2.1, false)) : EV)] := ⟨_, rfl⟩
    have hl9 : qs.length + 1 = qs9.length := by rw [hq9]; simp
    have hm9 : qs9.map (·.2) = projT b 2 (i + 1) := by rw [hq9, hnx, List.map_append, HP.out]; rfl
    rw [← hq9] at hout
    have HOUT := Lib.hid hout
    have HL9 := Lib.hid hl9
    have HM9 := Lib.hid hm9
    have HF9 := Lib.hid hf9
    clear hq9 hl9 hm9 hnx hpe hout own9 hf9 hb9
    go_roundg (b.length - (i + 1))
    case rel => exact ⟨i + 1, a9, c9, qs9, rfl, by omega, by go_num, by rw [HL9.out], HOUT.out, HM9.out, (FR4.out.trans (FR9.out.alloc _) (by simp)).trans HF9.out (fun k hk => .inr (HO.out.own.lt k (by simpa using hk)).1)⟩
    case measure => have := HQ.out; omega
   ·cases hd : beyondB b x.1 with
    | true =>
     rw [hd] at CD
     have HD := Lib.hid hd
     clear hd
     go_wp2_with (first | (go_at_call 65; refine HCP.out.mono ?_; rintro e5 w5 ⟨ta5, tc5, la5, lc5, rfl, r5, s5, hf5⟩; have rb := HB9.out.frm hf5 (by simp); have y0 := rb.cell (i := 0) rfl; have y1 := rb.cell (i := 1) rfl; have y2 := rb.cell (i := 2) rfl; have z0 := rb.frozen 0; have z1 := rb.frozen 1; have z2 := rb.frozen 2; have FR5 : Hid (Frm [] wr w5) := Lib.hid (((Frm.refl [] wr).alloc _).trans hf5 (by simp)); have cd5 := CD.out _ FR5.out; clear rb) | fail)
     have HNX : Hid (projT b 3 (i + 1) = projT b 3 i) := Lib.hid (projT_drop HX.out (by rw [HD.out]; rfl))
     go_roundg (b.length - (i + 1))
     case rel => exact ⟨i + 1, a, c, qs, rfl, by omega, by go_num, rfl, HO.out.nil (((FR5.out.setCell (p := ⟨wr.heap.size, 0, none⟩) (.inr (Nat.le_refl _)) _).setCell (p := ⟨wr.heap.size, 1, none⟩) (.inr (Nat.le_refl _)) _).setCell (p := ⟨wr.heap.size, 2, none⟩) (.inr (Nat.le_refl _)) _), by rw [HNX.out]; exact HP.out, FR4.out.trans (((FR5.out.setCell (p := ⟨wr.heap.size, 0, none⟩) (.inr (Nat.le_refl _)) _).setCell (p := ⟨wr.heap.size, 1, none⟩) (.inr (Nat.le_refl _)) _).setCell (p := ⟨wr.heap.size, 2, none⟩) (.inr (Nat.le_refl _)) _) (by simp)⟩
     case measure => have := HQ.out; omega
    | false =>
     rw [hd] at CD
     have HD := Lib.hid hd
     clear hd
     obtain ⟨t, l, dv⟩ := x
     dsimp only at *
     cases dv with
     | true =>
      go_upto_region 16 with (first | (go_at_call 65; refine HCP.out.mono ?_; rintro e5 w5 ⟨ta5, tc5, la5, lc5, rfl, r5, s5, hf5⟩; have rb := HB9.out.frm hf5 (by simp); have y0 := rb.cell (i := 0) rfl; have y1 := rb.cell (i := 1) rfl; have y2 := rb.cell (i := 2) rfl; have z0 := rb.frozen 0; have z1 := rb.frozen 1; have z2 := rb.frozen 2; have FR5 : Hid (Frm [] wr w5) := Lib.hid (((Frm.refl [] wr).alloc _).trans hf5 (by simp)); have cd5 := CD.out _ FR5.out) | fail)
      have fr9 : Frm [] wr ((((w5.setCell ⟨wr.heap.size, 0, none⟩ (.slice ta5 t.length tc5)).setCell ⟨wr.heap.size, 1, none⟩ (.slice la5 l.length lc5)).setCell ⟨wr.heap.size, 2, none⟩ (.bool true)).setCell ⟨wr.heap.size, 1, none⟩ (.slice none 0 0)) := ((((FR5.out.setCell (p := ⟨wr.heap.size, 0, none⟩) (.inr (Nat.le_refl _)) _).setCell (p := ⟨wr.heap.size, 1, none⟩) (.inr (Nat.le_refl _)) _).setCell (p := ⟨wr.heap.size, 2, none⟩) (.inr (Nat.le_refl _)) _).setCell (p := ⟨wr.heap.size, 1, none⟩) (.inr (Nat.le_refl _)) _)
      have f69 : Frm [wr.heap.size] w5 ((((w5.setCell ⟨wr.heap.size, 0, none⟩ (.slice ta5 t.length tc5)).setCell ⟨wr.heap.size, 1, none⟩ (.slice la5 l.length lc5)).setCell ⟨wr.heap.size, 2, none⟩ (.bool true)).setCell ⟨wr.heap.size, 1, none⟩ (.slice none 0 0)) := (((((Frm.refl [wr.heap.size] w5).setCell (p := ⟨wr.heap.size, 0, none⟩) (.inl (by simp)) _).setCell (p := ⟨wr.heap.size, 1, none⟩) (.inl (by simp)) _).setCell (p := ⟨wr.heap.size, 2, none⟩) (.inl (by simp)) _).setCell (p := ⟨wr.heap.size, 1, none⟩) (.inl (by simp)) _)
      have rb9 := ((((rb.setCell 0 (.slice ta5 t.length tc5)).setCell 1 (.slice la5 l.length lc5)).setCell 2 (.bool true)).setCell 1 (.slice none 0 0))
      simp only [List.set_cons_zero, List.set_cons_succ] at rb9
      have u0 := rb9.cell (i := 0) rfl
      have u1 := rb9.cell (i := 1) rfl
      have u2 := rb9.cell (i := 2) rfl
      clear rb rb9 y0 y1 y2 z0 z1 z2 cd5
      generalize ((((w5.setCell ⟨wr.heap.size, 0, none⟩ (.slice ta5 t.length tc5)).setCell ⟨wr.heap.size, 1, none⟩ (.slice la5 l.length lc5)).setCell ⟨wr.heap.size, 2, none⟩ (.bool true)).setCell ⟨wr.heap.size, 1, none⟩ (.slice none 0 0)) = W9 at *
      have FR9 := Lib.hid fr9
      have F69 := Lib.hid f69
      clear fr9 f69
      go_wp2_with (first | (at_builtin; refine app_rowB rfl (.tmp 49) (.tmp 51) 36 69 _ 3 56 rfl Tryz.underlying36 infoEnC rfl (by decide) w4.heap.size qs.length (.slice a qs.length c) (qs.flatMap enE) rfl (ownsB_frm HO.out.own (FR9.out.alloc _) (by simp)) _ 1 [.slice ta5 t.length tc5, .slice none 0 0, .bool true] [] rfl (rowV_cells (size := 3) (RowAt.made W9 69 [.slice ta5 t.length tc5, .slice none 0 0, .bool true] #[.slice ta5 t.length tc5, .slice none 0 0, .bool true] rfl) rfl (Nat.le_refl _) (by decide) (by simp)) (enE_one1 _ _ _ _ _ _ _) (qs.length + 1) rfl (by omega) (by omega) (Nat.le_trans FR4.out.size (FR9.out.alloc _).size) ?_; intro a9 c9 w9 own9 hf9 hb9) | fail)
      have hpe : projE 3 (t, l, true) = (t, [], true) := by simp [projE]
      have hnx : projT b 3 (i + 1) = projT b 3 i ++ [(t, [], true)] := by rw [← hpe]; exact projT_keep HX.out (by rw [HD.out]; rfl)
      have hout := HO.out.push (p := (((.slice ta5 t.length tc5, .slice none 0 0), (t, [], true)) : EV)) rfl (Nat.le_refl _) FR5.out ⟨r5, [], rfl, RowV.nil0 _ _ _, fun p hp => (by cases hp)⟩ (F69.out.alloc _) own9 hf9 hb9
      obtain ⟨qs9, hq9⟩ : ∃ qs9, qs9 = qs ++ [(((.slice ta5 t.length tc5, .slice none 0 0), (t, [], true)) : EV)] := ⟨_, rfl⟩
      have hl9 : qs.length + 1 = qs9.length := by rw [hq9]; simp
      have hm9 : qs9.map (·.2) = projT b 3 (i + 1) := by rw [hq9, hnx, List.map_append, HP.out]; rfl
      rw [← hq9] at hout
      have HOUT := Lib.hid hout
      have HL9 := Lib.hid hl9
      have HM9 := Lib.hid hm9
      have HF9 := Lib.hid hf9
      clear hq9 hl9 hm9 hnx hpe hout own9 hf9 hb9
      go_roundg (b.length - (i + 1))
      case rel => exact ⟨i + 1, a9, c9, qs9, rfl, by omega, by go_num, by rw [HL9.out], HOUT.out, HM9.out, (FR4.out.trans (FR9.out.alloc _) (by simp)).trans HF9.out (fun k hk => .inr (HO.out.own.lt k (by simpa using hk)).1)⟩
      case measure => have := HQ.out; omega
     | false =>
      go_upto_region 16 with (first | (go_at_call 65; refine HCP.out.mono ?_; rintro e5 w5 ⟨ta5, tc5, la5, lc5, rfl, r5, s5, hf5⟩; have rb := HB9.out.frm hf5 (by simp); have y0 := rb.cell (i := 0) rfl; have y1 := rb.cell (i := 1) rfl; have y2 := rb.cell (i := 2) rfl; have z0 := rb.frozen 0; have z1 := rb.frozen 1; have z2 := rb.frozen 2; have FR5 : Hid (Frm [] wr w5) := Lib.hid (((Frm.refl [] wr).alloc _).trans hf5 (by simp)); have cd5 := CD.out _ FR5.out) | fail)
      have fr9 : Frm [] wr (((w5.setCell ⟨wr.heap.size, 0, none⟩ (.slice ta5 t.length tc5)).setCell ⟨wr.heap.size, 1, none⟩ (.slice la5 l.length lc5)).setCell ⟨wr.heap.size, 2, none⟩ (.bool false)) := (((FR5.out.setCell (p := ⟨wr.heap.size, 0, none⟩) (.inr (Nat.le_refl _)) _).setCell (p := ⟨wr.heap.size, 1, none⟩) (.inr (Nat.le_refl _)) _).setCell (p := ⟨wr.heap.size, 2, none⟩) (.inr (Nat.le_refl _)) _)
      have f69 : Frm [wr.heap.size] w5 (((w5.setCell ⟨wr.heap.size, 0, none⟩ (.slice ta5 t.length tc5)).setCell ⟨wr.heap.size, 1, none⟩ (.slice la5 l.length lc5)).setCell ⟨wr.heap.size, 2, none⟩ (.bool false)) := ((((Frm.refl [wr.heap.size] w5).setCell (p := ⟨wr.heap.size, 0, none⟩) (.inl (by simp)) _).setCell (p := ⟨wr.heap.size, 1, none⟩) (.inl (by simp)) _).setCell (p := ⟨wr.heap.size, 2, none⟩) (.inl (by simp)) _)
      have rb9 := (((rb.setCell 0 (.slice ta5 t.length tc5)).setCell 1 (.slice la5 l.length lc5)).setCell 2 (.bool false))
      simp only [List.set_cons_zero, List.set_cons_succ] at rb9
      have u0 := rb9.cell (i := 0) rfl
      have u1 := rb9.cell (i := 1) rfl
      have u2 := rb9.cell (i := 2) rfl
      clear rb rb9 y0 y1 y2 z0 z1 z2 cd5
      generalize (((w5.setCell ⟨wr.heap.size, 0, none⟩ (.slice ta5 t.length tc5)).setCell ⟨wr.heap.size, 1, none⟩ (.slice la5 l.length lc5)).setCell ⟨wr.heap.size, 2, none⟩ (.bool false)) = W9 at *
      have FR9 := Lib.hid fr9
      have F69 := Lib.hid f69
      clear fr9 f69
      go_wp2_with (first | (at_builtin; refine app_rowB rfl (.tmp 49) (.tmp 51) 36 69 _ 3 56 rfl Tryz.underlying36 infoEnC rfl (by decide) w4.heap.size qs.length (.slice a qs.length c) (qs.flatMap enE) rfl (ownsB_frm HO.out.own (FR9.out.alloc _) (by simp)) _ 1 [.slice ta5 t.length tc5, .slice la5 l.length lc5, .bool false] [] rfl (rowV_cells (size := 3) (RowAt.made W9 69 [.slice ta5 t.length tc5, .slice la5 l.length lc5, .bool false] #[.slice ta5 t.length tc5, .slice la5 l.length lc5, .bool false] rfl) rfl (Nat.le_refl _) (by decide) (by simp)) (enE_one1 _ _ _ _ _ _ _) (qs.length + 1) rfl (by omega) (by omega) (Nat.le_trans FR4.out.size (FR9.out.alloc _).size) ?_; intro a9 c9 w9 own9 hf9 hb9) | fail)
      have hpe : projE 3 (t, l, false) = (t, l, false) := by simp [projE]
      have hnx : projT b 3 (i + 1) = projT b 3 i ++ [(t, l, false)] := by rw [← hpe]; exact projT_keep HX.out (by rw [HD.out]; rfl)
      have hout := HO.out.push (p := (((.slice ta5 t.length tc5, .slice la5 l.length lc5), (t, l, false)) : EV)) rfl (Nat.le_refl _) FR5.out ⟨r5, s5⟩ (F69.out.alloc _) own9 hf9 hb9
      obtain ⟨qs9, hq9⟩ : ∃ qs9, qs9 = qs ++ [(((.slice ta5 t.length tc5, .slice la5 l.length lc5), (t, l, false)) : EV)] := ⟨_, rfl⟩
      have hl9 : qs.length + 1 = qs9.length := by rw [hq9]; simp
      have hm9 : qs9.map (·.2) = projT b 3 (i + 1) := by rw [hq9, hnx, List.map_append, HP.out]; rfl
      rw [← hq9] at hout
      have HOUT := Lib.hid hout
      have HL9 := Lib.hid hl9
      have HM9 := Lib.hid hm9
      have HF9 := Lib.hid hf9
      clear hq9 hl9 hm9 hnx hpe hout own9 hf9 hb9
      go_roundg (b.length - (i + 1))
      case rel => exact ⟨i + 1, a9, c9, qs9, rfl, by omega, by go_num, by rw [HL9.out], HOUT.out, HM9.out, (FR4.out.trans (FR9.out.alloc _) (by simp)).trans HF9.out (fun k hk => .inr (HO.out.own.lt k (by simpa using hk)).1)⟩
      case measure => have := HQ.out; omega
  ·have i5 : ¬ (i : Int) < (b.length : Int) := by omega
   have HPE : Hid (qs.map (·.2) = projB b m) := Lib.hid (by rw [HP.out, projT_all (by omega)])
   go_wp2_with fail
   go_ret2
   exact projEnd_ok HOK.out HO.out HPE.out HF.out
end Go.Proofs.YtikpcipkkhmcfaaGreat.Beh
