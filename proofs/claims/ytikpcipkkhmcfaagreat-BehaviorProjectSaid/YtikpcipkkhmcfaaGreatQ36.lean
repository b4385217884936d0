/- Texts WO, WA. -/
import Derived.Test.YtikpcipkkhmcfaaGreatQ35
import Derived.Test.YtikpcipkkhmcfaaGreatQ33
import Derived.Test.YtikpcipkkhmcfaaGreatQ07
/- The law's spoil: some behavior. -/
namespace Go.Proofs.YtikpcipkkhmcfaaGreat.Beh
open Go.RowKit Go.Lib Go.Proofs.YtikpcipkkhmcfaaGreat Go.Proofs.YtikpcipkkhmcfaaGreat.Ind

def SpoilEnd (B tb M : Nat) (F : List Nat) (w : World) (e : Ending) (w' : World) : Prop :=
 ∃ a c d, e = .returned (.slice a (d : List En).length c) ∧ BehAt w' F (.slice a d.length c) d ∧ FitsN 2000 d ∧ d.length ≤ 200000 ∧ TapeOk B w' tb M ∧ Frm [tb] w w'
theorem enE_one {w : World} {F : List Nat} {ps : List EV} (h : ∀ p ∈ ps, EntAt w F p) : ∀ u ∈ ps.flatMap enE, u.oneCell' = true := by
 intro u hu
 obtain ⟨p, hp, hm⟩ := List.mem_flatMap.1 hu
 obtain ⟨ta, tc, aa, ac, e⟩ := (h p hp).shape
 unfold enE at hm
 rw [e] at hm
 simp at hm
 rcases hm with rfl | rfl | rfl <;> rfl
theorem Sp.tail {B0 : Nat} {F : List Nat} {g n c : Nat} {ps : List EV} {w : World} (h : Sp B0 F g n c ps w) : BehAt w F (.slice (some ⟨g, 3, none⟩) (n - 1) (c - 1)) ((ps.drop 1).map (·.2)) := by
 refine ⟨ps.drop 1, rfl, ?_, fun p hp => (h.ents p (List.mem_of_mem_drop hp)).lessC⟩
 have h9 := h.row.tail 1
 have e9 : (ps.flatMap enE).drop (1 * 3) = (ps.drop 1).flatMap enE := by
  cases ps with
  | nil => rfl
  | cons a r => simp [enE]
 rw [e9, Nat.one_mul] at h9
 rw [List.length_map, List.length_drop, h.len]
 exact h9
theorem Sp.tail0 {B0 : Nat} {F : List Nat} {g n c : Nat} {ps : List EV} {w : World} (h : Sp B0 F g n c ps w) (hn : n - 1 = 0) (hc : c - 1 ≤ maxLen) : BehAt w F (.slice (some ⟨g, 0, none⟩) (n - 1) (c - 1)) ((ps.drop 1).map (·.2)) := by
 have hd : ps.drop 1 = [] := List.drop_eq_nil_of_le (by rw [h.len]; omega)
 rw [hd, hn]
 exact ⟨[], rfl, ⟨rfl, some ⟨g, 0, none⟩, c - 1, rfl, Nat.zero_le _, hc, fun h => (by cases h), fun i u hu => (by simp at hu)⟩, fun p hp => (by cases hp)⟩
theorem Sp.frozen {B0 : Nat} {F : List Nat} {g n c : Nat} {ps : List EV} {w : World} (h : Sp B0 F g n c ps w) (hn : 0 < n) (j : Nat) : w.frozen? ⟨g, j, none⟩ = false := by
 obtain ⟨g9, cap, e9, _, _, _, hrow⟩ := ownsB_some h.own hn
 obtain ⟨rfl, rfl⟩ : g = g9 ∧ c = cap := by simpa using e9
 exact hrow.frozen j
theorem three_at (w : World) (A B C : Array Value) (e f : TypeId) : RowAt (((w.alloc (.cells A e)).alloc (.cells B e)).alloc (.cells C f)) w.heap.size e A.toList ∧ RowAt (((w.alloc (.cells A e)).alloc (.cells B e)).alloc (.cells C f)) (w.heap.size + 1) e B.toList ∧ RowAt (((w.alloc (.cells A e)).alloc (.cells B e)).alloc (.cells C f)) (w.heap.size + 1 + 1) f C.toList := by
 have h1 := ((RowAt.made w e A.toList A List.take_length).alloc (.cells B e)).alloc (.cells C f)
 have h2 := (RowAt.made (w.alloc (.cells A e)) e B.toList B List.take_length).alloc (.cells C f)
 have h3 := RowAt.made ((w.alloc (.cells A e)).alloc (.cells B e)) f C.toList C List.take_length
 have e1 : (w.alloc (.cells A e)).heap.size = w.heap.size + 1 := by simp
 have e2 : ((w.alloc (.cells A e)).alloc (.cells B e)).heap.size = w.heap.size + 1 + 1 := by simp
 rw [e1] at h2
 rw [e2] at h3
 exact ⟨h1, h2, h3⟩
theorem fits_map {ps : List EV} {b : List En} (h : FitsN 1100 b) (e : ps.map (·.2) = b) {qs : List EV} (hq : ∀ q ∈ qs, q ∈ ps ∨ q.2.1.length ≤ 2000 ∧ q.2.2.1.length ≤ 2000 ∧ ∀ y ∈ q.2.2.1, y.length ≤ 2000) : FitsN 2000 (qs.map (·.2)) := by
 intro x hx
 obtain ⟨q, hm, rfl⟩ := List.mem_map.1 hx
 rcases hq q hm with h9 | h9
 ·exact h.mono (by decide) q.2 (by rw [← e]; exact List.mem_map_of_mem h9)
 ·exact h9
set_option linter.unusedSimpArgs false in
set_option maxRecDepth 100000 in
set_option maxHeartbeats 8000000 in
theorem spoilB_any (B tb N : Nat) (F : List Nat) (w : World) (v : Value) (b : List En) (h : BehAt w F v b) (hT : TapeOk B w tb N) (hB : B ≤ tb) (hN : N ≤ 900000000) (htb : tb ∈ F) (hF : ∀ k ∈ F, k < w.heap.size) (h0 : 1 ≤ b.length) (hbl : b.length ≤ 100000) (hfit : FitsN 1100 b) :
  Calls Tryz.prog 21 #[.pointer (some ⟨tb, 0, none⟩), v] w (SpoilEnd B tb (N + 2) F w) := by
 obtain ⟨va, vc, rfl⟩ := h.shape
 obtain ⟨ps, e1, r1, en1⟩ := h
 have hone := enE_one en1
 have R1 := Lib.hid r1
 have EN1 := Lib.hid en1
 have HPS := Lib.hid e1
 have HTA := Lib.hid hT
 have HFL := Lib.hid hF
 have HTB := Lib.hid htb
 have HFIT := Lib.hid hfit
 have hlt := hT.lt
 have i0 : (1 : Int) ≤ (b.length : Int) := by omega
 have i1 : (b.length : Int) ≤ 100000 := by omega
 have HONE := Lib.hid hone
 clear r1 en1 e1 hT hF htb hfit hone
 go_enter Tryz.func21, Tryz.ntmps21
 go_wp2_with (first | (at_builtin; refine app_rowB rfl (.tmp 7) (.tmp 8) 36 69 _ 3 56 rfl Tryz.underlying36 infoEnC rfl (by decide) w.heap.size 0 (.slice (some ⟨w.heap.size, 0, none⟩) 0 0) [] rfl (owns_made0 w 69 3) _ b.length (ps.flatMap enE) F rfl (RowV.nil R1.out ((Frm.refl [] w).alloc _)) HONE.out b.length (Nat.zero_add _) (by omega) (by omega) (by simp) ?_; intro a1 c1 w1 own1 hf1 hl1) | fail)
 rw [List.nil_append] at own1
 obtain ⟨g, cap, e9, hc1, hc2, _, _⟩ := ownsB_some own1 (by omega)
 obtain ⟨rfl, rfl⟩ : a1 = some ⟨g, 0, none⟩ ∧ c1 = cap := by simpa using e9
 have hf1' : Frm [] w w1 := frm_own ((Frm.refl [] w).alloc _) (owns_made0 w 69 3) (Nat.le_refl _) hf1
 have S1 : Hid (Sp w.heap.size F g b.length c1 ps w1) := Lib.hid ⟨own1, fun p hp => (EN1.out p hp).step hf1' (by simp) (fun k hk => by
  rcases List.mem_cons.1 hk with rfl | h9
  ·exact .inr (own1.lt k rfl).1
  ·exact .inl h9), HFL.out⟩
 have F1 := Lib.hid hf1'
 clear own1 hf1 hl1 hf1' e9
 refine (next_any B tb N (b.length : Int) w1 (HTA.out.nil F1.out) hB (by omega) (by omega)).mono ?_
 rintro e2 w2 ⟨⟨v2, rfl, hv2, -⟩, hT2, hf2⟩
 obtain ⟨j1, j2⟩ := hv2 (by omega)
 obtain ⟨i, rfl⟩ : ∃ i : Nat, v2 = (i : Int) := ⟨v2.toNat, by omega⟩
 have S2 := Lib.hid (S1.out.next hf2 HTB.out)
 have F2 : Hid (Frm [tb] w w2) := Lib.hid ((F1.out.mono (by simp)).trans hf2 (fun k hk => .inl hk))
 have HT2 := Lib.hid hT2
 clear hv2 hT2 hf2 S1 F1
 go_wp2_with fail
 refine (next_any B tb (N + 1) 6 w2 HT2.out hB (by omega) (by omega)).mono ?_
 rintro e3 w3 ⟨⟨v3, rfl, hv3, -⟩, hT3, hf3⟩
 obtain ⟨j3, j4⟩ := hv3 (by omega)
 have S3 := Lib.hid (S2.out.next hf3 HTB.out)
 have F3 : Hid (Frm [tb] w w3) := Lib.hid (F2.out.trans hf3 (fun k hk => .inl hk))
 have HT3 := Lib.hid hT3
 obtain ⟨p, hp⟩ : ∃ p, ps[i]? = some p := ⟨_, List.getElem?_eq_getElem (by rw [S3.out.len]; omega)⟩
 obtain ⟨cl0, cl1, cl2⟩ := S3.out.cells hp
 have HP := Lib.hid hp
 obtain ⟨pta, ptc, paa, pac, hpe⟩ := (S3.out.ents p (List.mem_of_getElem? hp)).shape
 have HPE := Lib.hid hpe
 rw [hpe] at cl0 cl1
 have z0 := S3.out.row
 have hij : i < b.length := by omega
 have i6 : (i : Int) < (b.length : Int) := by omega
 clear hv3 hT3 hf3 S2 F2 HT2 hp hpe z0
 have hcase : v3 = 0 ∨ v3 = 1 ∨ v3 = 2 ∨ v3 = 3 ∨ v3 = 4 ∨ v3 = 5 := by omega
 rcases hcase with rfl | rfl | rfl | rfl | rfl | rfl
 ·have hlen : ((ps.drop 1).map (·.2)).length = b.length - 1 := by rw [List.length_map, List.length_drop, S3.out.len]
  have hfit : FitsN 2000 ((ps.drop 1).map (·.2)) := fits_map HFIT.out HPS.out (fun q hq => .inl (List.mem_of_mem_drop hq))
  have HL := Lib.hid hlen
  have HFI := Lib.hid hfit
  clear hlen hfit
  by_cases hc : c1 = 1
  ·have HTL := Lib.hid (S3.out.tail0 (by omega) (by unfold maxLen; omega))
   subst hc
   go_wp2_with fail
   all_goals
    go_ret
    have hb1 : b.length - 1 = 0 := by omega
    have ht := HTL.out
    rw [hb1] at ht
    exact ⟨_, _, _, by rw [HL.out, hb1]; rfl, by rw [HL.out, hb1]; exact ht, HFI.out, by rw [HL.out]; omega, HT3.out, F3.out⟩
  ·have HTL := Lib.hid S3.out.tail
   go_wp2_with fail
   all_goals
    go_ret
    exact ⟨_, _, _, by rw [HL.out]; rfl, by rw [HL.out]; exact HTL.out, HFI.out, by rw [HL.out]; omega, HT3.out, F3.out⟩
 ·obtain ⟨k1, k2, k3⟩ := HFIT.out p.2 (by rw [← HPS.out]; exact List.mem_map_of_mem (List.mem_of_getElem? HP.out))
  obtain ⟨ra, rb, rc⟩ := three_at w3 #[.int .i64 9] #[.int .i64 3] #[.slice (some ⟨w3.heap.size, 0, none⟩) 1 1, .slice (some ⟨w3.heap.size + 1, 0, none⟩) 1 1] 3 22
  have hF4 : Frm [] w3 (((w3.alloc (.cells #[.int .i64 9] 3)).alloc (.cells #[.int .i64 3] 3)).alloc (.cells #[.slice (some ⟨w3.heap.size, 0, none⟩) 1 1, .slice (some ⟨w3.heap.size + 1, 0, none⟩) 1 1] 22)) := (((Frm.refl [] w3).alloc _).alloc _).alloc _
  have S4 : Hid (Sp w.heap.size F g b.length c1 ps (((w3.alloc (.cells #[.int .i64 9] 3)).alloc (.cells #[.int .i64 3] 3)).alloc (.cells #[.slice (some ⟨w3.heap.size, 0, none⟩) 1 1, .slice (some ⟨w3.heap.size + 1, 0, none⟩) 1 1] 22))) := Lib.hid (S3.out.nil hF4)
  obtain ⟨qs, q1, q2, q3⟩ := (S3.out.ents p (List.mem_of_getElem? HP.out)).2
  rw [HPE.out] at q2
  have Q1 := Lib.hid q1
  have Q2 := Lib.hid (q2.nil hF4)
  have Q3 : Hid (PsAt w3 (g :: F) qs) := Lib.hid q3
  have Q4 := Lib.hid (PsAt.one q3)
  have own4 := owns_cells ((w3.alloc (.cells #[.int .i64 9] 3)).alloc (.cells #[.int .i64 3] 3)) 22 1 2 [.slice (some ⟨w3.heap.size, 0, none⟩) 1 1, .slice (some ⟨w3.heap.size + 1, 0, none⟩) 1 1] rfl (by decide)
  have hs4 : ((w3.alloc (.cells #[.int .i64 9] 3)).alloc (.cells #[.int .i64 3] 3)).heap.size = w3.heap.size + 1 + 1 := by simp
  rw [hs4] at own4
  have OWN4 := Lib.hid own4
  have HF4 := Lib.hid hF4
  have RA := Lib.hid ra
  have RB := Lib.hid rb
  have K2 := Lib.hid k2
  have K3 := Lib.hid k3
  have gG : ∀ k ∈ [g], w.heap.size ≤ k := fun k hk => by
   rw [List.mem_singleton.1 hk]
   exact S3.out.ge
  have gB : ∀ k ∈ [g], B ≤ k := fun k hk => by
   have := gG k hk
   omega
  have gT : tb ∉ [g] := fun hk => by
   have := gG tb hk
   omega
  have hlow : ∀ k, w3.heap.size ≤ k → k ∉ g :: F := fun k hk hm => by
   rcases List.mem_cons.1 hm with h9 | h9
   ·have := (S3.out.own.lt g rfl).2; omega
   ·have := HFL.out _ h9; have := F3.out.size; omega
  have x1 := (S4.out.cells HP.out).2.1
  rw [HPE.out] at x1
  have hsz4 : (((w3.alloc (.cells #[.int .i64 9] 3)).alloc (.cells #[.int .i64 3] 3)).alloc (.cells #[.slice (some ⟨w3.heap.size, 0, none⟩) 1 1, .slice (some ⟨w3.heap.size + 1, 0, none⟩) 1 1] 22)).heap.size = w3.heap.size + 1 + 1 + 1 := by simp
  have HZ4 := Lib.hid hsz4
  clear q1 q2 q3 own4 hs4 hF4 ra rb rc hsz4 k3
  go_wp2_with (first | (at_builtin; refine app_rowB rfl (.tmp 31) (.tmp 36) 67 22 _ 1 24 rfl Tryz.underlying67 infoIs rfl (by decide) (w3.heap.size + 1 + 1) 2 (.slice (some ⟨w3.heap.size + 1 + 1, 0, none⟩) 2 2) [.slice (some ⟨w3.heap.size, 0, none⟩) 1 1, .slice (some ⟨w3.heap.size + 1, 0, none⟩) 1 1] rfl OWN4.out _ p.2.2.1.length (qs.map (fun p : PV => p.1)) (g :: F) rfl Q2.out Q4.out (p.2.2.1.length + 2) (Nat.add_comm _ _) (by omega) (by omega) (by rw [HZ4.out]; omega) ?_; intro a5 c5 w5 own5 hf5 hl5; have S45 := Lib.hid (S3.out.nil (HF4.out.trans hf5 (fun k hk => .inr (by have h9 : k = w3.heap.size + 1 + 1 := (by simpa [Value.ownBlock] using hk); omega)))); have x2 := (S45.out.cells HP.out).2.1; have y2 := S45.out.frozen (by omega) (i * 3 + 1)) | fail)
  have HF5 : Hid (Frm [] w3 w5) := Lib.hid (HF4.out.trans hf5 (fun k hk => .inr (by have h9 : k = w3.heap.size + 1 + 1 := (by simpa [Value.ownBlock] using hk); omega)))
  have nm : ∀ k, k < w3.heap.size + 1 + 1 → k ∉ (Value.slice (some ⟨w3.heap.size + 1 + 1, 0, none⟩) 2 2).ownBlock.toList := fun k hk hm => by
   have h9 : k = w3.heap.size + 1 + 1 := (by simpa [Value.ownBlock] using hm)
   omega
  have hu : SetsAt w5 (g :: F) (.slice a5 (p.2.2.1.length + 2) c5) ([9] :: [3] :: p.2.2.1) := ⟨(.slice (some ⟨w3.heap.size, 0, none⟩) 1 1, [9]) :: (.slice (some ⟨w3.heap.size + 1, 0, none⟩) 1 1, [3]) :: qs, by rw [← Q1.out]; rfl, rowV_of_owns own5 (fun k hk e => hlow k (by have := (own5.lt k e).1; omega) hk), fun x hx => by
   rcases List.mem_cons.1 hx with rfl | hx
   ·exact rowV_cells (size := 1) (RA.out.frm hf5 (nm _ (by omega))) rfl (Nat.le_refl _) (by decide) (hlow _ (by omega))
   rcases List.mem_cons.1 hx with rfl | hx
   ·exact rowV_cells (size := 1) (RB.out.frm hf5 (nm _ (by omega))) rfl (Nat.le_refl _) (by decide) (hlow _ (by omega))
   ·exact (Q3.out x hx).nil HF5.out⟩
  have S5 := S45.out.set1 HP.out hu
  clear hu
  have hlen : ((ps.set i ((p.1.1, Value.slice a5 (p.2.2.1.length + 2) c5), (p.2.1, [9] :: [3] :: p.2.2.1, p.2.2.2))).map (·.2)).length = b.length := by rw [List.length_map, List.length_set, S3.out.len]
  go_ret
  refine ⟨_, _, _, by rw [hlen]; rfl, by rw [hlen]; exact S5.beh, fits_map HFIT.out HPS.out (fun q hq => ?_), by rw [hlen]; omega, (HT3.out.nil HF5.out).frm (setc_frm _ g _ _) gB gT, (F3.out.trans HF5.out (by simp)).trans (setc_frm _ g _ _) (fun k hk => .inr (gG k hk))⟩
  rcases List.mem_or_eq_of_mem_set hq with h9 | h9
  ·exact .inl h9
  ·rw [h9]
   exact .inr ⟨by show p.2.1.length ≤ 2000; omega, by have := K2.out; show p.2.2.1.length + 1 + 1 ≤ 2000; omega, fun y hy => by rcases List.mem_cons.1 hy with rfl | hy; exact (by show (1 : Nat) ≤ 2000; decide); rcases List.mem_cons.1 hy with rfl | hy; exact (by show (1 : Nat) ≤ 2000; decide); exact Nat.le_trans (K3.out y hy) (by decide)⟩
 ·obtain ⟨k1, k2, k3⟩ := HFIT.out p.2 (by rw [← HPS.out]; exact List.mem_map_of_mem (List.mem_of_getElem? HP.out))
  obtain ⟨ra, rb, rc⟩ := three_at w3 #[.int .i64 2] #[.int .i64 2, .int .i64 3] #[.slice (some ⟨w3.heap.size, 0, none⟩) 1 1, .slice (some ⟨w3.heap.size + 1, 0, none⟩) 2 2] 3 22
  have S4 : Hid (Sp w.heap.size F g b.length c1 ps (((w3.alloc (.cells #[.int .i64 2] 3)).alloc (.cells #[.int .i64 2, .int .i64 3] 3)).alloc (.cells #[.slice (some ⟨w3.heap.size, 0, none⟩) 1 1, .slice (some ⟨w3.heap.size + 1, 0, none⟩) 2 2] 22))) := Lib.hid (S3.out.nil ((((Frm.refl [] w3).alloc _).alloc _).alloc _))
  have gG : ∀ k ∈ [g], w.heap.size ≤ k := fun k hk => by
   rw [List.mem_singleton.1 hk]
   exact S3.out.ge
  have gB : ∀ k ∈ [g], B ≤ k := fun k hk => by
   have := gG k hk
   omega
  have gT : tb ∉ [g] := fun hk => by
   have := gG tb hk
   omega
  have hlow : ∀ k, w3.heap.size ≤ k → k ∉ g :: F := fun k hk hm => by
   rcases List.mem_cons.1 hm with h9 | h9
   ·have := (S3.out.own.lt g rfl).2; omega
   ·have := HFL.out _ h9; have := F3.out.size; omega
  have hu : SetsAt (((w3.alloc (.cells #[.int .i64 2] 3)).alloc (.cells #[.int .i64 2, .int .i64 3] 3)).alloc (.cells #[.slice (some ⟨w3.heap.size, 0, none⟩) 1 1, .slice (some ⟨w3.heap.size + 1, 0, none⟩) 2 2] 22)) (g :: F) (.slice (some ⟨w3.heap.size + 1 + 1, 0, none⟩) 2 2) [[2], [2, 3]] := ⟨[(.slice (some ⟨w3.heap.size, 0, none⟩) 1 1, [2]), (.slice (some ⟨w3.heap.size + 1, 0, none⟩) 2 2, [2, 3])], rfl, rowV_cells (size := 1) rc rfl (Nat.le_refl _) (by decide) (hlow _ (by omega)), fun x hx => by
   simp at hx
   rcases hx with rfl | rfl
   ·exact rowV_cells (size := 1) ra rfl (Nat.le_refl _) (by decide) (hlow _ (by omega))
   ·exact rowV_cells (size := 1) rb rfl (Nat.le_refl _) (by decide) (hlow _ (by omega))⟩
  have S5 := S4.out.set1 HP.out hu
  have x1 := (S4.out.cells HP.out).2.1
  have y1 := S4.out.frozen (by omega) (i * 3 + 1)
  rw [HPE.out] at x1
  clear hu ra rb rc
  go_wp2_with fail
  have hlen : ((ps.set i ((p.1.1, Value.slice (some ⟨w3.heap.size + 1 + 1, 0, none⟩) 2 2), (p.2.1, [[2], [2, 3]], p.2.2.2))).map (·.2)).length = b.length := by rw [List.length_map, List.length_set, S3.out.len]
  go_ret
  refine ⟨_, _, _, by rw [hlen]; rfl, by rw [hlen]; exact S5.beh, fits_map HFIT.out HPS.out (fun q hq => ?_), by rw [hlen]; omega, (HT3.out.nil ((((Frm.refl [] w3).alloc _).alloc _).alloc _)).frm (setc_frm _ g _ _) gB gT, (((F3.out.alloc _).alloc _).alloc _).trans (setc_frm _ g _ _) (fun k hk => .inr (gG k hk))⟩
  rcases List.mem_or_eq_of_mem_set hq with h9 | h9
  ·exact .inl h9
  ·rw [h9]
   exact .inr ⟨by show p.2.1.length ≤ 2000; omega, by show (2 : Nat) ≤ 2000; decide, fun y hy => by simp at hy; rcases hy with rfl | rfl <;> decide⟩
 ·obtain ⟨k1, k2, k3⟩ := HFIT.out p.2 (by rw [← HPS.out]; exact List.mem_map_of_mem (List.mem_of_getElem? HP.out))
  have hF4 : Frm [] w3 (w3.alloc (.cells #[] 3)) := (Frm.refl [] w3).alloc _
  have S4 : Hid (Sp w.heap.size F g b.length c1 ps (w3.alloc (.cells #[] 3))) := Lib.hid (S3.out.nil hF4)
  have q2 := (S4.out.ents p (List.mem_of_getElem? HP.out)).1
  rw [HPE.out] at q2
  have Q2 := Lib.hid q2
  have HF4 := Lib.hid hF4
  have K2 := Lib.hid k2
  have K3 := Lib.hid k3
  have gG : ∀ k ∈ [g], w.heap.size ≤ k := fun k hk => by
   rw [List.mem_singleton.1 hk]
   exact S3.out.ge
  have gB : ∀ k ∈ [g], B ≤ k := fun k hk => by
   have := gG k hk
   omega
  have gT : tb ∉ [g] := fun hk => by
   have := gG tb hk
   omega
  have hlow : ∀ k, w3.heap.size ≤ k → k ∉ g :: F := fun k hk hm => by
   rcases List.mem_cons.1 hm with h9 | h9
   ·have := (S3.out.own.lt g rfl).2; omega
   ·have := HFL.out _ h9; have := F3.out.size; omega
  have x1 := (S4.out.cells HP.out).1
  rw [HPE.out] at x1
  clear q2 hF4 k3
  go_wp2_with (first
   | (at_builtin; refine app_rowB rfl (.tmp 59) (.tmp 60) 22 3 _ 1 8 rfl Tryz.underlying22 infoInt rfl (by decide) w3.heap.size p.2.1.length (.slice a5 p.2.1.length c5) (ints p.2.1) rfl (ownsB_frm OWN5.out ((Frm.refl [] w5).alloc _) (by simp)) _ 1 [.int .i64 0] [] rfl (rowV_cells (size := 1) (RowAt.made w5 3 [.int .i64 0] #[.int .i64 0] rfl) rfl (Nat.le_refl _) (by decide) (by simp)) (by simp [Value.oneCell']) (p.2.1.length + 1) rfl (by omega) (by omega) (by have := HF5.out.size; simp; omega) ?_; intro a6 c6 w6 own6 hf6 hl6; have HF6 : Hid (Frm [] w3 w6) := Lib.hid ((HF5.out.alloc (.cells #[.int .i64 0] 3)).trans hf6 (fun k hk => .inr (OWN5.out.lt k (by simpa using hk)).1)); have S46 := Lib.hid (S3.out.nil HF6.out); have x3 := (S46.out.cells HP.out).1; have y3 := S46.out.frozen (by omega) (i * 3))
   | (at_builtin; refine app_rowB rfl (.tmp 53) (.tmp 58) 22 3 _ 1 8 rfl Tryz.underlying22 infoInt rfl (by decide) w3.heap.size 0 (.slice (some ⟨w3.heap.size, 0, none⟩) 0 0) [] rfl (owns_made0 w3 3 1) _ p.2.1.length (ints p.2.1) (g :: F) rfl Q2.out (by simp [ints, Value.oneCell']) p.2.1.length (Nat.zero_add _) (by omega) (by omega) (by simp) ?_; intro a5 c5 w5 own5 hf5 hl5; have HF5 : Hid (Frm [] w3 w5) := Lib.hid (frm_own HF4.out (owns_made0 w3 3 1) (Nat.le_refl _) hf5); have OWN5 : Hid (w5.ownsRow w3.heap.size 3 1 (.slice a5 p.2.1.length c5) p.2.1.length (ints p.2.1)) := Lib.hid (by simpa using own5); clear own5 hf5 hl5)
   | fail)
  have hu : RowV w6 (g :: F) (.slice a6 (p.2.1.length + 1) c6) (p.2.1 ++ [0]).length 1 (ints (p.2.1 ++ [0])) := by
   rw [List.length_append, ints, List.map_append]
   exact rowV_of_owns own6 (fun k hk e => hlow k (own6.lt k e).1 hk)
  have S5 := S46.out.set0 HP.out hu
  clear hu
  have hlen : ((ps.set i ((Value.slice a6 (p.2.1.length + 1) c6, p.1.2), (p.2.1 ++ [0], p.2.2.1, p.2.2.2))).map (·.2)).length = b.length := by rw [List.length_map, List.length_set, S3.out.len]
  go_ret
  refine ⟨_, _, _, by rw [hlen]; rfl, by rw [hlen]; exact S5.beh, fits_map HFIT.out HPS.out (fun q hq => ?_), by rw [hlen]; omega, (HT3.out.nil HF6.out).frm (setc_frm _ g _ _) gB gT, (F3.out.trans HF6.out (by simp)).trans (setc_frm _ g _ _) (fun k hk => .inr (gG k hk))⟩
  rcases List.mem_or_eq_of_mem_set hq with h9 | h9
  ·exact .inl h9
  ·rw [h9]
   exact .inr ⟨by show (p.2.1 ++ [0]).length ≤ 2000; rw [List.length_append]; simp; omega, by have := K2.out; show p.2.2.1.length ≤ 2000; omega, fun y hy => Nat.le_trans (K3.out y hy) (by decide)⟩
 ·have S4 : Hid (Sp w.heap.size F g b.length c1 ps (w3.alloc (.cells #[.slice pta p.2.1.length ptc, .slice paa p.2.2.1.length pac, .bool p.2.2.2] 69))) := Lib.hid (S3.out.nil ((Frm.refl [] w3).alloc _))
  have HR4 := Lib.hid (RowAt.made w3 69 [.slice pta p.2.1.length ptc, .slice paa p.2.2.1.length pac, .bool p.2.2.2] #[.slice pta p.2.1.length ptc, .slice paa p.2.2.1.length pac, .bool p.2.2.2] rfl)
  have hpm := List.mem_of_getElem? HP.out
  go_wp2_with (first | (at_builtin; refine app_rowB rfl (.tmp 66) (.tmp 71) 36 69 _ 3 56 rfl Tryz.underlying36 infoEnC rfl (by decide) w.heap.size b.length (.slice (some ⟨g, 0, none⟩) b.length c1) (ps.flatMap enE) rfl (S4.out.own) _ 1 [.slice pta p.2.1.length ptc, .slice paa p.2.2.1.length pac, .bool p.2.2.2] [] rfl (rowV_cells (size := 3) HR4.out rfl (Nat.le_refl _) (by decide) (by simp)) (by simp [Value.oneCell']) (b.length + 1) rfl (by omega) (by omega) (by have := S4.out.own.lt g rfl; omega) ?_; intro a5 c5 w5 own5 hf5 hl5) | fail)
  have gG : ∀ k ∈ (Value.slice (some ⟨g, 0, none⟩) b.length c1).ownBlock.toList, w.heap.size ≤ k := fun k hk => by
   have h9 : k = g := by simpa [Value.ownBlock] using hk
   rw [h9]
   exact S3.out.ge
  have gB : ∀ k ∈ (Value.slice (some ⟨g, 0, none⟩) b.length c1).ownBlock.toList, B ≤ k := fun k hk => by
   have := gG k hk
   omega
  have gT : tb ∉ (Value.slice (some ⟨g, 0, none⟩) b.length c1).ownBlock.toList := fun hk => by
   have := gG tb hk
   omega
  have hbeh := S4.out.snoc (q := p) (S4.out.ents p hpm) (by simpa [enE, HPE.out] using own5) hf5
  have hlen : ((ps ++ [p]).map (·.2)).length = b.length + 1 := by rw [List.length_map, List.length_append, S3.out.len]; rfl
  go_ret
  refine ⟨_, _, _, by rw [hlen]; rfl, by rw [hlen]; exact hbeh, fits_map HFIT.out HPS.out (fun q hq => ?_), by rw [hlen]; omega, (HT3.out.nil ((Frm.refl [] w3).alloc _)).frm hf5 (fun k hk => gB k hk) (fun hm => gT hm), ((F3.out.alloc (.cells #[.slice pta p.2.1.length ptc, .slice paa p.2.2.1.length pac, .bool p.2.2.2] 69)).trans hf5 (fun k hk => .inr (gG k hk)))⟩
  rcases List.mem_append.1 hq with h9 | h9
  ·exact .inl h9
  ·rw [List.mem_singleton.1 h9]
   exact .inl hpm
 ·have S4 : Hid (Sp w.heap.size F g b.length c1 ps ((w3.alloc (.cells #[.int .i64 9, .int .i64 9, .int .i64 9, .int .i64 9, .int .i64 9] 3)).alloc (.cells #[.slice (some ⟨w3.heap.size, 0, none⟩) 5 5, .slice none 0 0, .bool false] 69))) := Lib.hid (S3.out.nil (((Frm.refl [] w3).alloc _).alloc _))
  have hR4 := RowAt.made (w3.alloc (.cells #[.int .i64 9, .int .i64 9, .int .i64 9, .int .i64 9, .int .i64 9] 3)) 69 [.slice (some ⟨w3.heap.size, 0, none⟩) 5 5, .slice none 0 0, .bool false] #[.slice (some ⟨w3.heap.size, 0, none⟩) 5 5, .slice none 0 0, .bool false] rfl
  have hR9 := (RowAt.made w3 3 [.int .i64 9, .int .i64 9, .int .i64 9, .int .i64 9, .int .i64 9] #[.int .i64 9, .int .i64 9, .int .i64 9, .int .i64 9, .int .i64 9] rfl).alloc (.cells #[.slice (some ⟨w3.heap.size, 0, none⟩) 5 5, .slice none 0 0, .bool false] 69)
  have hs4 : (w3.alloc (.cells #[.int .i64 9, .int .i64 9, .int .i64 9, .int .i64 9, .int .i64 9] 3)).heap.size = w3.heap.size + 1 := by simp
  rw [hs4] at hR4
  have HR4 := Lib.hid hR4
  have HR9 := Lib.hid hR9
  clear hR4 hR9 hs4
  go_wp2_with (first | (at_builtin; refine app_rowB rfl (.tmp 16) (.tmp 19) 36 69 _ 3 56 rfl Tryz.underlying36 infoEnC rfl (by decide) w.heap.size b.length (.slice (some ⟨g, 0, none⟩) b.length c1) (ps.flatMap enE) rfl (S4.out.own) _ 1 [.slice (some ⟨w3.heap.size, 0, none⟩) 5 5, .slice none 0 0, .bool false] [] rfl (rowV_cells (size := 3) HR4.out rfl (Nat.le_refl _) (by decide) (by simp)) (by simp [Value.oneCell']) (b.length + 1) rfl (by omega) (by omega) (by have := S4.out.own.lt g rfl; omega) ?_; intro a5 c5 w5 own5 hf5 hl5) | fail)
  have hg9 : w3.heap.size ∉ g :: F := fun hm => by
   rcases List.mem_cons.1 hm with h9 | h9
   ·have := (S3.out.own.lt g rfl).2; omega
   ·have := HFL.out _ h9; have := F3.out.size; omega
  have gG : ∀ k ∈ (Value.slice (some ⟨g, 0, none⟩) b.length c1).ownBlock.toList, w.heap.size ≤ k := fun k hk => by
   have h9 : k = g := by simpa [Value.ownBlock] using hk
   rw [h9]
   exact S3.out.ge
  have gB : ∀ k ∈ (Value.slice (some ⟨g, 0, none⟩) b.length c1).ownBlock.toList, B ≤ k := fun k hk => by
   have := gG k hk
   omega
  have gT : tb ∉ (Value.slice (some ⟨g, 0, none⟩) b.length c1).ownBlock.toList := fun hk => by
   have := gG tb hk
   omega
  have hbeh := S4.out.snoc (q := (((Value.slice (some ⟨w3.heap.size, 0, none⟩) 5 5, Value.slice none 0 0), (([9, 9, 9, 9, 9] : List Int), ([] : List (List Int)), false)) : EV)) ⟨rowV_cells (size := 1) (n := 5) HR9.out rfl (Nat.le_refl _) (by decide) hg9, ⟨[], rfl, RowV.nil0 _ _ _, fun p hp => (by cases hp)⟩⟩ own5 hf5
  have hlen : ((ps ++ [(((Value.slice (some ⟨w3.heap.size, 0, none⟩) 5 5, Value.slice none 0 0), (([9, 9, 9, 9, 9] : List Int), ([] : List (List Int)), false)) : EV)]).map (·.2)).length = b.length + 1 := by rw [List.length_map, List.length_append, S3.out.len]; rfl
  go_ret
  refine ⟨_, _, _, by rw [hlen]; rfl, by rw [hlen]; exact hbeh, fits_map HFIT.out HPS.out (fun q hq => ?_), by rw [hlen]; omega, (HT3.out.nil (((Frm.refl [] w3).alloc _).alloc _)).frm hf5 gB gT, (((F3.out.alloc _).alloc _).trans hf5 (fun k hk => .inr (gG k hk)))⟩
  rcases List.mem_append.1 hq with h9 | h9
  ·exact .inl h9
  ·rw [List.mem_singleton.1 h9]
   exact .inr ⟨by show (5 : Nat) ≤ 2000; decide, by show (0 : Nat) ≤ 2000; decide, fun y hy => (by cases hy)⟩
end Go.Proofs.YtikpcipkkhmcfaaGreat.Beh

/- The reference's Rising, AddSet, Minimal. -/
namespace Go.Proofs.YtikpcipkkhmcfaaGreat.Beh
open Go.Shelf Go.RowKit Go.Lib Go.Proofs.YtikpcipkkhmcfaaGreat Go.Proofs.YtikpcipkkhmcfaaGreat.Ind

set_option maxRecDepth 100000 in
theorem rising_any (B : Nat) (a : Option Addr) (cap : Nat) (xs : List Int) (w : World) (h : Rd B w a xs.length cap 1 (ints xs)) :
  Calls Tryz.prog 80 #[.slice a xs.length cap] w fun e w' => e = .returned (.bool (Ind.ascB xs)) ∧ Frm [] w w' := by
 have l1 := h.lt
 obtain ⟨R, hR⟩ : ∃ R, Ind.ascB xs = R := ⟨_, rfl⟩
 rw [hR]
 have H := Lib.hid h
 clear h
 go_enter Tryz.func80, Tryz.ntmps80
 go_wp2_with fail
 go_loopg [3] xs.length (fun q i wr => ∃ (k : Nat), q = xs.length - k ∧ i = .int .i64 ((k + 1 : Nat) : Int) ∧ k ≤ xs.length ∧ Ind.ascB (xs.drop k) = R ∧ Frm [] w wr)
 case atStart => exact ⟨0, rfl, rfl, Nat.zero_le _, hR, Frm.refl _ _⟩
 case round =>
  clear hR
  obtain ⟨k, rfl, rfl, hk, hd, hF⟩ := hrel
  have HF := Lib.hid hF
  have i4 : (0 : Int) ≤ ((k + 1 : Nat) : Int) := by omega
  have i3 : IntKind.i64.wrap (((k + 1 : Nat) : Int) - 1) = (k : Int) := by rw [IntWalk.i64_in _ (by omega)]; omega
  have i2 : (0 : Int) ≤ (k : Int) := by omega
  clear hF
  by_cases hlt : k + 1 < xs.length
  ·have i5 : ((k + 1 : Nat) : Int) < (xs.length : Int) := by omega
   have i6 : (k : Int) < (xs.length : Int) := by omega
   obtain ⟨x, hx⟩ : ∃ x, xs[k]? = some x := ⟨_, List.getElem?_eq_getElem (by omega)⟩
   obtain ⟨y, hy⟩ : ∃ y, xs[k + 1]? = some y := ⟨_, List.getElem?_eq_getElem hlt⟩
   rw [drop_cons hx, drop_cons hy, Ind.ascB] at hd
   obtain ⟨g, o, rfl, _, c1⟩ := H.out.at hx
   obtain ⟨g', o', e9, _, c2⟩ := H.out.at hy
   cases e9
   have d1 := HF.out.cell c1 (by simp)
   have d2 := HF.out.cell c2 (by simp)
   clear c1 c2
   by_cases hxy : x < y
   ·have hxy2 : ¬ y ≤ x := by omega
    rw [decide_eq_true hxy, Bool.true_and, ← drop_cons hy] at hd
    have HD := Lib.hid hd
    clear hd hx hy
    generalize hk1 : k + 1 = k1 at *
    go_wp2_with fail
    go_quiet (fail)
    go_wp2_with fail
    go_roundg (xs.length - k1)
    case rel => exact ⟨k1, rfl, by first | rfl | go_num, by omega, HD.out, HF.out.drewN _⟩
    case measure => omega
   ·have hxy2 : y ≤ x := by omega
    rw [decide_eq_false hxy, Bool.false_and] at hd
    have HD := Lib.hid hd
    clear hd hx hy hxy
    generalize hk1 : k + 1 = k1 at *
    go_wp2_with fail
    go_quiet (fail)
    go_wp2_with fail
    go_ret
    exact ⟨by rw [← HD.out]; rfl, HF.out.drewN _⟩
  ·have i5 : ¬ ((k + 1 : Nat) : Int) < (xs.length : Int) := by omega
   have HR : Hid (R = true) := Lib.hid (by
    rw [← hd]
    have hl : (xs.drop k).length ≤ 1 := by rw [List.length_drop]; omega
    match xs.drop k, hl with
    | [], _ => rfl
    | [_], _ => rfl)
   clear hd
   go_wp2_with fail
   go_ret
   exact ⟨by rw [HR.out]; rfl, HF.out⟩
theorem insG_at {l : List (List Int)} {x : List Int} {i : Nat} (hi : i ≤ l.length) (h : ∀ y ∈ l.take i, ltL y x = true) : insG ltL l x = l.take i ++ insG ltL (l.drop i) x := by
 induction i generalizing l with
 | zero => simp
 | succ i ih =>
  cases l with
  | nil => simp
  | cons a r =>
   rw [List.take_succ_cons, List.drop_succ_cons, insG, if_pos (h a (by simp)), List.cons_append]
   rw [ih (by simpa using hi) (fun y hy => h y (by simp [hy]))]
theorem insG_stop {l : List (List Int)} {x y : List Int} (h : l.head? = some y) (h1 : ltL y x = false) : insG ltL l x = if y = x then l else x :: l := by
 cases l with
 | nil => cases h
 | cons a r =>
  simp only [List.head?_cons, Option.some.injEq] at h
  subst h
  rw [insG, h1]
  simp
def AddEnd (w : World) (B : Nat) (F : List Nat) (rows : List (List Int)) (x : List Int) (e : Ending) (w' : World) : Prop :=
 (∃ (a : Option Addr) (c : Nat) (ps : List PV), e = .returned (.slice a ps.length c) ∧ w'.ownsRow B 22 1 (.slice a ps.length c) ps.length (ps.map (·.1)) ∧ PsAt w' F ps ∧ ps.map (·.2) = insG ltL rows x) ∧ Frm [] w w'
theorem take_mapF {α β : Type} (f : α → β) (l : List α) (k : Nat) : (l.take k).map f = (l.map f).take k := List.map_take
set_option linter.unusedSimpArgs false in
set_option maxRecDepth 100000 in
set_option maxHeartbeats 8000000 in
theorem addSet_any (B : Nat) (F : List Nat) (w : World) (a : Option Addr) (c : Nat) (ps : List PV) (u : Value) (x : List Int) (h : w.ownsRow B 22 1 (.slice a ps.length c) ps.length (ps.map (·.1))) (hp : PsAt w F ps) (hx : RowV w F u x.length 1 (ints x)) (hn : ps.length ≤ 1000000000) (hB : B ≤ w.heap.size) :
  Calls Tryz.prog 142 #[.slice a ps.length c, u] w (AddEnd w B F (ps.map (·.2)) x) := by
 obtain ⟨ua, uc, rfl⟩ := hx.shape
 have H := Lib.hid h
 have HP := Lib.hid hp
 have HX := Lib.hid hx
 have l1 : (ps.length : Int) ≤ 1000000000 := by omega
 have hle : (ps.length : Int) ≤ (c : Int) := by
  obtain ⟨_, a', c', e', h2, _⟩ := rowV_of_owns (F := []) h (by simp)
  cases e'
  omega
 have HRV := Lib.hid (rowV_of_owns (F := []) h (by simp))
 obtain ⟨R, hR⟩ : ∃ R, R = ps.map (·.2) := ⟨_, rfl⟩
 rw [← hR]
 have HR := Lib.hid hR
 have HRL : Hid (R.length = ps.length) := Lib.hid (by rw [hR, List.length_map])
 clear h hp hx hR
 go_enter Tryz.func142, Tryz.ntmps142
 go_wp2_with fail
 go_loopg [5] ps.length (fun q t wr => ∃ (k : Nat), q = ps.length - k ∧ k ≤ ps.length ∧ t = .int .i64 k ∧ (∀ y ∈ R.take k, ltL y x = true) ∧ Frm [] w wr)
 case atStart => exact ⟨0, rfl, Nat.zero_le _, rfl, by simp, Frm.refl _ _⟩
 case round =>
  obtain ⟨k, hq, hk, rfl, hd, hF⟩ := hrel
  have HQ := Lib.hid hq
  have HF := Lib.hid hF
  have HD := Lib.hid hd
  have i4 : (0 : Int) ≤ (k : Int) := by omega
  clear hq hF hd
  by_cases hlt : k < ps.length
  ·have i5 : (k : Int) < (ps.length : Int) := by omega
   obtain ⟨⟨y1, y⟩, hy⟩ : ∃ p, ps[k]? = some p := ⟨_, List.getElem?_eq_getElem hlt⟩
   have hyR : R[k]? = some y := by rw [HR.out, List.getElem?_map, hy]; rfl
   have hry : RowV w F y1 y.length 1 (ints y) := HP.out _ (List.mem_of_getElem? hy)
   obtain ⟨ya, yc, rfl⟩ := hry.shape
   obtain ⟨g, cp, e0, _, _, _, hrow⟩ := ownsB_some H.out (by omega)
   obtain ⟨rfl, rfl⟩ : a = some ⟨g, 0, none⟩ ∧ c = cp := by simpa using e0
   have c0 := HF.out.cell (hrow.cell (i := k) (by rw [List.getElem?_map, hy]; rfl)) (by simp)
   have hL := lessInts_any wr.heap.size wr.heap.size ya ua yc uc y x wr (hry.nil HF.out).rd (HX.out.nil HF.out).rd
   cases hb : ltL y x with
   | true =>
    rw [hb] at hL
    have HL := Lib.hid hL
    have HT : Hid (∀ z ∈ R.take (k + 1), ltL z x = true) := Lib.hid (fun z hz => by
     rw [take_snoc hyR] at hz
     rcases List.mem_append.1 hz with hz | hz
     ·exact HD.out z hz
     ·rw [List.mem_singleton.1 hz]; exact hb)
    clear hL hb hy hyR hry e0 hrow
    go_wp2_with (go_at_call 50; refine HL.out.mono ?_; rintro e5 w5 ⟨rfl, hf5⟩)
    go_roundg (ps.length - (k + 1))
    case rel => exact ⟨k + 1, rfl, by omega, by go_num, HT.out, HF.out.trans hf5 (by simp)⟩
    case measure => have := HQ.out; omega
   | false =>
    rw [hb] at hL
    have HL := Lib.hid hL
    have hins := insG_at (l := R) (i := k) (by rw [HRL.out]; omega) HD.out
    have hst := insG_stop (l := R.drop k) (x := x) (y := y) (by rw [drop_cons hyR]; rfl) hb
    rw [hst] at hins
    have HE : Hid (∀ W, Frm [] w W → Calls Tryz.prog 34 #[.slice ya y.length yc, .slice ua x.length uc] W fun e w' => e = .returned (.bool (decide (y = x))) ∧ Frm [] W w') := Lib.hid fun W hf => Go.Proofs.YtikpcipkkhmcfaaGreat.ints_same W.heap.size ya ua yc uc y x W (hry.nil hf).rd (HX.out.nil hf).rd
    have C0 := Lib.hid (hrow.cell (i := k) (by rw [List.getElem?_map, hy]; rfl) : w.cell? ⟨g, k, none⟩ = some (.slice ya y.length yc))
    by_cases hyx : y = x
    ·rw [if_pos hyx, List.take_append_drop] at hins
     have he := HE.out
     rw [decide_eq_true hyx] at he
     have HE2 := Lib.hid he
     have HINS := Lib.hid hins
     clear hL hb hy hyR hry e0 hrow hins hst he HE hyx
     go_wp2_with (first
      | (go_at_call 50; refine HL.out.mono ?_; rintro e5 w5 ⟨rfl, hf5⟩; have FW := Lib.hid (HF.out.trans hf5 (by simp)); have d0 := FW.out.cell C0.out (by simp); clear hf5)
      | (go_at_call 34; refine (HE2.out _ FW.out).mono ?_; rintro e6 w6 ⟨rfl, hf6⟩; have FW6 := Lib.hid (FW.out.trans hf6 (by simp)); clear hf6)
      | fail)
     go_ret
     exact ⟨⟨some ⟨g, 0, none⟩, c, ps, rfl, ownsB_frm H.out FW6.out (by simp), HP.out.nil FW6.out, by rw [HINS.out, HR.out]⟩, FW6.out⟩
    ·rw [if_neg hyx] at hins
     have he := HE.out
     rw [decide_eq_false hyx] at he
     have HE2 := Lib.hid he
     have HINS := Lib.hid hins
     have i6 : (k : Int) ≤ (c : Int) := by omega
     have i7 : (k : Int) ≤ (ps.length : Int) := by omega
     have i8 : IntKind.i64.wrap ((ps.length : Int) - (k : Int)) = ((ps.length - k : Nat) : Int) := by rw [IntWalk.i64_in _ (by omega)]; omega
     have HIN : Hid (∀ W, Frm [] w W → RowV W [] (.slice (some ⟨g, 0, none⟩) k c) k 1 ((ps.map (·.1)).take k)) := Lib.hid fun W hf => by
      have := (HRV.out.nil hf).init (k := k) (by omega)
      rw [Nat.mul_one] at this
      exact this
     have HTL : Hid (∀ W, Frm [] w W → RowV W [] (.slice (some ⟨g, k, none⟩) (ps.length - k) (c - k)) (ps.length - k) 1 ((ps.map (·.1)).drop k)) := Lib.hid fun W hf => by
      have := (HRV.out.nil hf).tail k
      rw [Nat.mul_one] at this
      exact this
     clear hL hb hy hyR hry e0 hrow hins hst he HE hyx
     go_wp2_with (first
      | (go_at_call 50; refine HL.out.mono ?_; rintro e5 w5 ⟨rfl, hf5⟩; have FW := Lib.hid (HF.out.trans hf5 (by simp)); have d0 := FW.out.cell C0.out (by simp); clear hf5)
      | (go_at_call 34; refine (HE2.out _ FW.out).mono ?_; rintro e6 w6 ⟨rfl, hf6⟩; have FW6 := Lib.hid (FW.out.trans hf6 (by simp)); clear hf6)
      | (at_builtin; refine app_rowB rfl (.tmp 34) (.tmp 37) 67 22 _ 1 24 rfl Tryz.underlying67 infoIs rfl (by decide) w6.heap.size 0 (.slice (some ⟨w6.heap.size, 0, none⟩) 0 0) [] rfl (owns_made0 w6 22 1) _ k ((ps.map (fun p : PV => p.1)).take k) [] rfl (HIN.out _ (FW6.out.alloc _)) (fun v hv => HP.out.one v (List.mem_of_mem_take hv)) k (Nat.zero_add _) (by omega) (by omega) (by simp) ?_; intro a1 c1 w1 own1 hf1 hb1; have O1 := Lib.hid own1; have Z1 : Hid (w6.heap.size ≤ w1.heap.size) := Lib.hid (Nat.le_trans (by simp) hf1.size); have F1 := Lib.hid (frm_own (FW6.out.alloc _) (owns_made0 w6 22 1) FW6.out.size hf1); clear own1 hf1 hb1)
      | (at_builtin; refine app_rowB rfl (.tmp 39) (.tmp 41) 67 22 _ 1 24 rfl Tryz.underlying67 infoIs rfl (by decide) w6.heap.size k (.slice a1 k c1) _ rfl (ownsB_frm O1.out ((Frm.refl [] w1).alloc (.cells #[.slice ua x.length uc] 22)) (by simp)) _ 1 [.slice ua x.length uc] [] rfl (rowV_cells (size := 1) (RowAt.made w1 22 [.slice ua x.length uc] #[.slice ua x.length uc] rfl) rfl (Nat.le_refl _) (by decide) (by simp)) (by simp [Value.oneCell']) (k + 1) rfl (by omega) (by omega) (Nat.le_trans Z1.out (by simp)) ?_; intro a2 c2 w2 own2 hf2 hb2; have O2 := Lib.hid own2; have Z2 : Hid (w6.heap.size ≤ w2.heap.size) := Lib.hid (Nat.le_trans Z1.out (Nat.le_trans (by simp) hf2.size)); have F2 := Lib.hid ((F1.out.alloc (.cells #[.slice ua x.length uc] 22)).trans hf2 (fun y hy => .inr (Nat.le_trans FW6.out.size (O1.out.lt y (by simpa using hy)).1))); clear own2 hf2 hb2)
      | (at_builtin; refine app_rowB rfl (.tmp 43) (.tmp 46) 67 22 _ 1 24 rfl Tryz.underlying67 infoIs rfl (by decide) w6.heap.size (k + 1) (.slice a2 (k + 1) c2) _ rfl O2.out _ (ps.length - k) ((ps.map (fun p : PV => p.1)).drop k) [] rfl (HTL.out _ F2.out) (fun v hv => HP.out.one v (List.mem_of_mem_drop hv)) (ps.length + 1) (by omega) (by omega) (by omega) Z2.out ?_; intro a3 c3 w3 own3 hf3 hb3; have O3 := Lib.hid own3; have F3 := Lib.hid (F2.out.trans hf3 (fun y hy => .inr (Nat.le_trans FW6.out.size (O2.out.lt y (by simpa using hy)).1))); clear own3 hf3 hb3)
      | fail)
     go_ret
     have hll : (ps.take k ++ [((.slice ua x.length uc, x) : PV)] ++ ps.drop k).length = ps.length + 1 := by simp; omega
     refine ⟨⟨a3, c3, ps.take k ++ [(.slice ua x.length uc, x)] ++ ps.drop k, by rw [hll]; rfl, ?_, ?_, ?_⟩, F3.out⟩
     ·rw [hll, List.map_append, List.map_append, take_mapF, List.map_drop]
      have h9 := ownsB_mono O3.out (Nat.le_trans hB FW6.out.size)
      rw [List.nil_append] at h9
      exact h9
     ·intro q hq
      rcases List.mem_append.1 hq with hq | hq
      ·rcases List.mem_append.1 hq with hq | hq
       ·exact (HP.out q (List.mem_of_mem_take hq)).nil F3.out
       ·rw [List.mem_singleton.1 hq]; exact HX.out.nil F3.out
      ·exact (HP.out q (List.mem_of_mem_drop hq)).nil F3.out
     ·rw [List.map_append, List.map_append, take_mapF, List.map_drop, ← HR.out, HINS.out]
      simp
  ·have i5 : ¬ (k : Int) < (ps.length : Int) := by omega
   have hkl : k = ps.length := by omega
   have HINS : Hid (insG ltL R x = R.take k ++ x :: R.drop k) := Lib.hid (by
    rw [insG_at (l := R) (i := k) (by rw [HRL.out]; omega) HD.out, List.drop_eq_nil_of_le (by rw [HRL.out]; omega)]; rfl)
   cases a with
   | none =>
    obtain ⟨hps, rfl⟩ : ps = [] ∧ c = 0 := by
     rcases H.out.2 with ⟨h1, h2⟩ | ⟨_, _, _, h1, _⟩
     ·exact ⟨List.eq_nil_of_length_eq_zero h2, by simp at h1; exact h1.2⟩
     ·cases h1
    subst hps
    simp only [List.length_nil] at hk
    obtain rfl : k = 0 := by omega
    have hR0 : insG ltL R x = [x] := by rw [HR.out]; rfl
    have HR0 := Lib.hid hR0
    have i9 : ¬ (0 : Int) < 0 := by omega
    clear i4 i5 l1 hle hkl hR0 HD HINS HRL
    go_wp2_with (first
     | (at_builtin; refine app_rowB rfl (.tmp 34) (.tmp 37) 67 22 _ 1 24 rfl Tryz.underlying67 infoIs rfl (by decide) wr.heap.size 0 (.slice (some ⟨wr.heap.size, 0, none⟩) 0 0) [] rfl (owns_made0 wr 22 1) _ 0 [] [] rfl (RowV.nil0 _ _ _) (by simp) 0 rfl (by omega) (by omega) (by simp) ?_; intro a1 c1 w1 own1 hf1 hb1; have O1 := Lib.hid own1; have Z1 : Hid (wr.heap.size ≤ w1.heap.size) := Lib.hid (Nat.le_trans (by simp) hf1.size); have F1 := Lib.hid (frm_own (HF.out.alloc _) (owns_made0 wr 22 1) HF.out.size hf1); clear own1 hf1 hb1)
     | (at_builtin; refine app_rowB rfl (.tmp 39) (.tmp 41) 67 22 _ 1 24 rfl Tryz.underlying67 infoIs rfl (by decide) wr.heap.size 0 (.slice a1 0 c1) _ rfl (ownsB_frm O1.out ((Frm.refl [] w1).alloc (.cells #[.slice ua x.length uc] 22)) (by simp)) _ 1 [.slice ua x.length uc] [] rfl (rowV_cells (size := 1) (RowAt.made w1 22 [.slice ua x.length uc] #[.slice ua x.length uc] rfl) rfl (Nat.le_refl _) (by decide) (by simp)) (by simp [Value.oneCell']) 1 rfl (by omega) (by omega) (Nat.le_trans Z1.out (by simp)) ?_; intro a2 c2 w2 own2 hf2 hb2; have O2 := Lib.hid own2; have Z2 : Hid (wr.heap.size ≤ w2.heap.size) := Lib.hid (Nat.le_trans Z1.out (Nat.le_trans (by simp) hf2.size)); have F2 := Lib.hid ((F1.out.alloc (.cells #[.slice ua x.length uc] 22)).trans hf2 (fun y hy => .inr (Nat.le_trans HF.out.size (O1.out.lt y (by simpa using hy)).1))); clear own2 hf2 hb2)
     | (at_builtin; refine app_rowB rfl (.tmp 43) (.tmp 46) 67 22 _ 1 24 rfl Tryz.underlying67 infoIs rfl (by decide) wr.heap.size 1 (.slice a2 1 c2) _ rfl O2.out _ 0 [] [] rfl (RowV.nil0 _ _ _) (by simp) 1 rfl (by omega) (by omega) Z2.out ?_; intro a3 c3 w3 own3 hf3 hb3; have O3 := Lib.hid own3; have F3 := Lib.hid (F2.out.trans hf3 (fun y hy => .inr (Nat.le_trans HF.out.size (O2.out.lt y (by simpa using hy)).1))); clear own3 hf3 hb3)
     | fail)
    go_ret
    refine ⟨⟨a3, c3, [(.slice ua x.length uc, x)], rfl, ownsB_mono O3.out (Nat.le_trans hB HF.out.size), fun q hq => ?_, ?_⟩, F3.out⟩
    ·rw [List.mem_singleton.1 hq]; exact HX.out.nil F3.out
    ·rw [HR0.out]; rfl
   | some ad =>
    obtain ⟨g, rfl⟩ : ∃ g, ad = ⟨g, 0, none⟩ := by
     rcases H.out.2 with ⟨h1, _⟩ | ⟨g, _, _, h1, _⟩
     ·cases h1
     ·cases h1; exact ⟨g, rfl⟩
    have i6 : (k : Int) ≤ (c : Int) := by omega
    have i7 : (k : Int) ≤ (ps.length : Int) := by omega
    have i8 : IntKind.i64.wrap ((ps.length : Int) - (k : Int)) = ((ps.length - k : Nat) : Int) := by rw [IntWalk.i64_in _ (by omega)]; omega
    have HIN : Hid (∀ W, Frm [] w W → RowV W [] (.slice (some ⟨g, 0, none⟩) k c) k 1 ((ps.map (·.1)).take k)) := Lib.hid fun W hf => by
     have := (HRV.out.nil hf).init (k := k) (by omega)
     rw [Nat.mul_one] at this
     exact this
    have HTL : Hid (∀ W, Frm [] w W → RowV W [] (.slice (if c = k then some ⟨g, 0, none⟩ else some ⟨g, k, none⟩) (ps.length - k) (c - k)) (ps.length - k) 1 ((ps.map (fun p : PV => p.1)).drop k)) := Lib.hid fun W hf => by
     have h9 := (HRV.out.nil hf).tail k
     rw [Nat.mul_one] at h9
     split
     ·have hd : (ps.map (fun p : PV => p.1)).drop k = [] := List.drop_eq_nil_of_le (by rw [List.length_map]; omega)
      rw [hd]
      exact RowV.zero W [] ⟨g, 0, none⟩ _ _ 1 (by omega) (by unfold maxLen; omega)
     ·exact h9
    clear HD hkl
    go_wp2_with (first
     | (at_builtin; refine app_rowB rfl (.tmp 34) (.tmp 37) 67 22 _ 1 24 rfl Tryz.underlying67 infoIs rfl (by decide) wr.heap.size 0 (.slice (some ⟨wr.heap.size, 0, none⟩) 0 0) [] rfl (owns_made0 wr 22 1) _ k ((ps.map (fun p : PV => p.1)).take k) [] rfl (HIN.out _ (HF.out.alloc _)) (fun v hv => HP.out.one v (List.mem_of_mem_take hv)) k (Nat.zero_add _) (by omega) (by omega) (by simp) ?_; intro a1 c1 w1 own1 hf1 hb1; have O1 := Lib.hid own1; have Z1 : Hid (wr.heap.size ≤ w1.heap.size) := Lib.hid (Nat.le_trans (by simp) hf1.size); have F1 := Lib.hid (frm_own (HF.out.alloc _) (owns_made0 wr 22 1) HF.out.size hf1); clear own1 hf1 hb1)
     | (at_builtin; refine app_rowB rfl (.tmp 39) (.tmp 41) 67 22 _ 1 24 rfl Tryz.underlying67 infoIs rfl (by decide) wr.heap.size k (.slice a1 k c1) _ rfl (ownsB_frm O1.out ((Frm.refl [] w1).alloc (.cells #[.slice ua x.length uc] 22)) (by simp)) _ 1 [.slice ua x.length uc] [] rfl (rowV_cells (size := 1) (RowAt.made w1 22 [.slice ua x.length uc] #[.slice ua x.length uc] rfl) rfl (Nat.le_refl _) (by decide) (by simp)) (by simp [Value.oneCell']) (k + 1) rfl (by omega) (by omega) (Nat.le_trans Z1.out (by simp)) ?_; intro a2 c2 w2 own2 hf2 hb2; have O2 := Lib.hid own2; have Z2 : Hid (wr.heap.size ≤ w2.heap.size) := Lib.hid (Nat.le_trans Z1.out (Nat.le_trans (by simp) hf2.size)); have F2 := Lib.hid ((F1.out.alloc (.cells #[.slice ua x.length uc] 22)).trans hf2 (fun y hy => .inr (Nat.le_trans HF.out.size (O1.out.lt y (by simpa using hy)).1))); clear own2 hf2 hb2)
     | (at_builtin; refine app_rowB rfl (.tmp 43) (.tmp 46) 67 22 _ 1 24 rfl Tryz.underlying67 infoIs rfl (by decide) wr.heap.size (k + 1) (.slice a2 (k + 1) c2) _ rfl O2.out _ (ps.length - k) ((ps.map (fun p : PV => p.1)).drop k) [] rfl (HTL.out _ F2.out) (fun v hv => HP.out.one v (List.mem_of_mem_drop hv)) (ps.length + 1) (by omega) (by omega) (by omega) Z2.out ?_; intro a3 c3 w3 own3 hf3 hb3; have O3 := Lib.hid own3; have F3 := Lib.hid (F2.out.trans hf3 (fun y hy => .inr (Nat.le_trans HF.out.size (O2.out.lt y (by simpa using hy)).1))); clear own3 hf3 hb3)
     | fail)
    all_goals
     go_ret
     have hll : (ps.take k ++ [((.slice ua x.length uc, x) : PV)] ++ ps.drop k).length = ps.length + 1 := by simp; omega
     refine ⟨⟨a3, c3, ps.take k ++ [(.slice ua x.length uc, x)] ++ ps.drop k, by rw [hll]; rfl, ?_, ?_, ?_⟩, F3.out⟩
     ·rw [hll, List.map_append, List.map_append, take_mapF, List.map_drop]
      have h9 := ownsB_mono O3.out (Nat.le_trans hB HF.out.size)
      rw [List.nil_append] at h9
      exact h9
     ·intro q hq
      rcases List.mem_append.1 hq with hq | hq
      ·rcases List.mem_append.1 hq with hq | hq
       ·exact (HP.out q (List.mem_of_mem_take hq)).nil F3.out
       ·rw [List.mem_singleton.1 hq]; exact HX.out.nil F3.out
      ·exact (HP.out q (List.mem_of_mem_drop hq)).nil F3.out
     ·rw [List.map_append, List.map_append, take_mapF, List.map_drop, ← HR.out, HINS.out]
      simp
end Go.Proofs.YtikpcipkkhmcfaaGreat.Beh
