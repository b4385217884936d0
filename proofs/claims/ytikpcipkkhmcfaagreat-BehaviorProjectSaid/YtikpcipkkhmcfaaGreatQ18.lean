/- Texts B2, B0, B3. -/
import Derived.Test.YtikpcipkkhmcfaaGreatQ00
import Derived.Test.YtikpcipkkhmcfaaGreatQ16
import Derived.Test.YtikpcipkkhmcfaaGreatQ17
import Derived.Test.YtikpcipkkhmcfaaGreatQ15
/- Contract of flow.New. Printed by b2.py. -/
namespace Go.Proofs.YtikpcipkkhmcfaaGreat
open Go.RowKit

set_option linter.unusedSimpArgs false in
set_option maxRecDepth 100000 in
set_option maxHeartbeats 4000000 in
theorem wnew_any (a : Option Addr) (cap n : Nat) (w : World) (hn : n ≤ 100000) :
  Calls Tryz.prog 56 #[.agg #[.slice a n cap]] w fun e w' => ∃ wb gs, e = .returned (.pointer (some ⟨wb, 0, none⟩)) ∧ WkAt w.heap.size w' wb gs a cap n 0 (List.replicate n 0) ∧ Frm [] w w' := by
 have f0 : Frm [] w (w.alloc (.cells #[.slice a n cap] 25)) := (Frm.refl [] w).alloc _
 have hb0 := (box1 w (.slice a n cap) 25).cell (i := 0) rfl
 have C0 := Lib.hid hb0
 have hs0 : (w.alloc (.cells #[.slice a n cap] 25)).heap.size = w.heap.size + 1 := by simp only [World.alloc, Array.size_push]
 go_enter Tryz.func56, Tryz.ntmps56
 go_wp2_with fail
 obtain ⟨w0, hw0⟩ : ∃ x, x = w.alloc (.cells #[.slice a n cap] 25) := ⟨_, rfl⟩
 rw [← hw0] at C0 f0 hs0 hb0 ⊢
 have HF0 := Lib.hid f0
 clear hw0 f0
 refine wp_region_held_drew (S := fun w' => w'.cell? ⟨w.heap.size, 0, none⟩ = some (.slice a n cap)) (by kernel_rfl) (C0.out) ?_
 intro hHeld
 refine qtk 0 (v := ?_) rfl (by kernel_rfl) (fun _ _ _ h => h) (by rfl) (by assumption) ?_ ?_
 rotate_left
 ·(intro w9 hS9; (try dsimp only at hS9); go_split_ands; go_simp; try with_reducible rfl)
 try simp only [Act.put, qgA, qgS, qg0, qsA, qs0, qsS]
 refine qtk 1 (v := ?_) rfl (by kernel_rfl) (fun _ _ _ h => h) (by rfl) (by assumption) ?_ ?_
 rotate_left
 ·(intro w9 hS9; (try dsimp only at hS9); go_split_ands; go_simp; try with_reducible rfl)
 try simp only [Act.put, qgA, qgS, qg0, qsA, qs0, qsS]
 refine qtk 2 (v := ?_) rfl (by kernel_rfl) (fun _ _ _ h => h) (by rfl) (by assumption) ?_ ?_
 rotate_left
 ·(intro w9 hS9; (try dsimp only at hS9); go_split_ands; go_simp; try with_reducible rfl)
 try simp only [Act.put, qgA, qgS, qg0, qsA, qs0, qsS]
 refine qtk 3 (v := ?_) rfl (by kernel_rfl) (fun _ _ _ h => h) (by rfl) (by assumption) ?_ ?_
 rotate_left
 ·(intro w9 hS9; (try dsimp only at hS9); go_split_ands; go_simp; try with_reducible rfl)
 try simp only [Act.put, qgA, qgS, qg0, qsA, qs0, qsS]
 refine wpAnyH_ready (rs := [4]) (by kernel_rfl) (by simp) ?_
 refine AllReadyH.cons rfl (fun K hK => ?_) AllReadyH.nil
 refine step_make_i _ rfl (.tmp 6) rfl _ n rfl rfl (by omega) ?_
 intro w1 hown1 hf1 hsz1
 refine hK.out _ _ ?_ (fun hHeld => ?_)
 ·exact hf1.cell C0.out (by simp)
 clear hK K
 try simp only [Act.put, qgA, qgS, qg0, qsA, qs0, qsS]
 refine qtk 5 (v := ?_) rfl (by kernel_rfl) (fun _ _ _ h => h) (by rfl) (by assumption) ?_ ?_
 rotate_left
 ·(intro w9 hS9; (try dsimp only at hS9); go_split_ands; go_simp; try with_reducible rfl)
 try simp only [Act.put, qgA, qgS, qg0, qsA, qs0, qsS]
 refine wpAnyH_ready (rs := [6]) (by kernel_rfl) (by simp) ?_
 refine AllReadyH.cons rfl (fun K hK => ?_) AllReadyH.nil
 go_simp
 have hf9 : Frm [] w1 (w1.alloc (.cells #[.slice a n cap, .slice (some ⟨w.heap.size + 1, 0, none⟩) n n, .int .i64 0] 114)) := (Frm.refl [] w1).alloc _
 refine hK.out _ _ ?_ (fun hHeld => ?_)
 ·exact hf9.cell (hf1.cell C0.out (by simp)) (by simp)
 clear hK K
 try simp only [Act.put, qgA, qgS, qg0, qsA, qs0, qsS]
 refine qtk 7 (v := ?_) rfl (by kernel_rfl) (fun _ _ _ h => h) (by rfl) (by assumption) ?_ ?_
 rotate_left
 ·(intro w9 hS9; (try dsimp only at hS9); go_split_ands; go_simp; try with_reducible rfl)
 try simp only [Act.put, qgA, qgS, qg0, qsA, qs0, qsS]
 refine wpAnyH_done (by kernel_rfl) ?_ _
 have hs1 : w0.drew.heap.size = w.heap.size + 1 := hs0
 rw [hs1] at hown1 hsz1
 have HEND : Hid (WkAt w.heap.size (w1.alloc (.cells #[.slice a n cap, .slice (some ⟨w.heap.size + 1, 0, none⟩) n n, .int .i64 0] 114)) w1.heap.size (w.heap.size + 1) a cap n 0 (List.replicate n 0)) := Lib.hid ⟨RowAt.made w1 _ _ _ rfl, ownsB_mono (hown1.alloc _) (by omega), by omega, by omega, fun v hv => by
  rw [Tj.ix, List.getD_eq_getElem?_getD, List.getElem?_replicate, if_pos hv]
  exact Int.le_refl _⟩
 have HF9 := Lib.hid ((HF0.out.drew.trans hf1 (by simp)).trans hf9 (by simp))
 clear hown1 hf1 hf9
 go_wp2_with fail
 go_ret
 exact ⟨_, _, rfl, HEND.out, HF9.out⟩

end Go.Proofs.YtikpcipkkhmcfaaGreat

/- Plain law: the breadth-first search of a Walker finds what is reached. No program. -/
namespace Go.Proofs.YtikpcipkkhmcfaaGreat

structure Wrk (E : Nat → List Nat) (n : Nat) (fr : List Nat) (r : Nat) (seen : List Int) (out : List Nat) (i j : Nat) : Prop where
 len : seen.length = n
 mem : ∀ v, v ∈ out ↔ v < n ∧ Tj.ix seen v = r
 nd : out.Nodup
 snd : ∀ v ∈ out, ∃ s ∈ fr, Path E s v
 done : ∀ k c, k < i → out[k]? = some c → ∀ t ∈ E c, t ∈ out
 part : ∀ c, out[i]? = some c → ∀ t ∈ (E c).take j, t ∈ out
 le : ∀ v, v < n → Tj.ix seen v ≤ r

theorem Wrk.start {E : Nat → List Nat} {n : Nat} {fr : List Nat} {r : Nat} {seen : List Int} (hl : seen.length = n) (hle : ∀ v, v < n → Tj.ix seen v < r) : Wrk E n fr r seen [] 0 0 :=
 ⟨hl, fun v => ⟨(fun h => by cases h), (fun h => by have := hle v h.1; omega)⟩, List.nodup_nil, (fun v h => by cases h), (fun k c hk => absurd hk (Nat.not_lt_zero _)), (fun c h => by cases h), (fun v hv => by have := hle v hv; omega)⟩
theorem Wrk.few {E : Nat → List Nat} {n : Nat} {fr : List Nat} {r : Nat} {seen : List Int} {out : List Nat} {i j : Nat} (h : Wrk E n fr r seen out i j) : out.length ≤ n := by
 have := h.nd.length_le_of_subset (l₂ := List.range n) (fun v hv => List.mem_range.2 ((h.mem v).1 hv).1)
 simpa using this
/-- One more state. -/
theorem Wrk.add {E : Nat → List Nat} {n : Nat} {fr : List Nat} {r : Nat} {seen : List Int} {out : List Nat} {i j v : Nat} (h : Wrk E n fr r seen out i j) (hv : v < n) (hne : Tj.ix seen v ≠ r) (hp : ∃ s ∈ fr, Path E s v) (hi : i < out.length ∨ (i = 0 ∧ j = 0)) :
  Wrk E n fr r (seen.set v (r : Int)) (out ++ [v]) i j := by
 have hvl : v < seen.length := by rw [h.len]; exact hv
 have hnew : v ∉ out := fun hm => hne ((h.mem v).1 hm).2
 have hix : ∀ u, Tj.ix (seen.set v (r : Int)) u = if u = v then (r : Int) else Tj.ix seen u := fun u => Tj.ix_set _ _ _ _ hvl
 refine ⟨by rw [List.length_set]; exact h.len, fun u => ?_, ?_, fun u hu => ?_, fun k c hk hc t ht => ?_, fun c hc t ht => ?_, fun u hu => ?_⟩
 ·rw [List.mem_append, h.mem u, List.mem_singleton, hix u]
  by_cases huv : u = v
  ·subst huv; simp [hv]
  ·simp [huv]
 ·rw [List.nodup_append]
  exact ⟨h.nd, by simp, fun a ha b hb => by rw [List.mem_singleton] at hb; subst hb; intro e; exact hnew (e ▸ ha)⟩
 ·rcases List.mem_append.1 hu with hu | hu
  ·exact h.snd u hu
  ·rw [List.mem_singleton] at hu; rw [hu]; exact hp
 ·rcases hi with hi | hi
  ·rw [List.getElem?_append_left (by omega)] at hc
   exact List.mem_append_left _ (h.done k c hk hc t ht)
  ·omega
 ·rcases hi with hi | hi
  ·rw [List.getElem?_append_left hi] at hc
   exact List.mem_append_left _ (h.part c hc t ht)
  ·rw [hi.2, List.take_zero] at ht
   cases ht
 ·rw [hix u]
  split
  ·exact Int.le_refl _
  ·exact h.le u hu
theorem Wrk.mark {E : Nat → List Nat} {n : Nat} {fr : List Nat} {r : Nat} {seen : List Int} {out : List Nat} {i j c t : Nat} (h : Wrk E n fr r seen out i j) (hc : out[i]? = some c) (ht : (E c)[j]? = some t) (hm : t ∈ out) : Wrk E n fr r seen out i (j + 1) :=
 ⟨h.len, h.mem, h.nd, h.snd, h.done, fun c' hc' u hu => by
  rw [hc] at hc'
  cases hc'
  rw [List.take_add_one, ht, Option.toList_some] at hu
  rcases List.mem_append.1 hu with hu | hu
  ·exact h.part c hc u hu
  ·rw [List.mem_singleton] at hu; rw [hu]; exact hm, h.le⟩
theorem Wrk.next {E : Nat → List Nat} {n : Nat} {fr : List Nat} {r : Nat} {seen : List Int} {out : List Nat} {i j c : Nat} (h : Wrk E n fr r seen out i j) (hc : out[i]? = some c) (hj : (E c).length ≤ j) : Wrk E n fr r seen out (i + 1) 0 :=
 ⟨h.len, h.mem, h.nd, h.snd, fun k c' hk hc' t ht => by
  by_cases hki : k < i
  ·exact h.done k c' hki hc' t ht
  ·obtain rfl : k = i := by omega
   rw [hc] at hc'
   cases hc'
   exact h.part c hc t (by rw [List.take_of_length_le hj]; exact ht), (fun c' _ t ht => by rw [List.take_zero] at ht; cases ht), h.le⟩
theorem Wrk.finish {E : Nat → List Nat} {n : Nat} {fr : List Nat} {r : Nat} {seen : List Int} {out : List Nat} {i j : Nat} (h : Wrk E n fr r seen out i j) (hi : out.length ≤ i) (hf : ∀ s ∈ fr, s ∈ out) (v : Nat) : v ∈ out ↔ ∃ s ∈ fr, Path E s v := by
 refine ⟨h.snd v, ?_⟩
 rintro ⟨s, hs, hp⟩
 exact hp.closed (P := fun v => v ∈ out) (fun a b ha hb => by
  obtain ⟨k, hk1, hk2⟩ := List.getElem_of_mem ha
  exact h.done k a (by omega) (by rw [← hk2]; exact List.getElem?_eq_getElem hk1) b hb) (hf s hs)

end Go.Proofs.YtikpcipkkhmcfaaGreat

/- Contract of Reach of a Walker. -/
namespace Go.Proofs.YtikpcipkkhmcfaaGreat
open Go.RowKit

theorem WkAt.mark {B : Nat} {w : World} {wb gs : Nat} {a : Option Addr} {cap n r : Nat} {seen : List Int} (h : WkAt B w wb gs a cap n r seen) {v : Nat} (hv : v < n) (x : Int) (hx : x = (r : Int)) : WkAt B (w.setCell ⟨gs, v, none⟩ (.int .i64 x)) wb gs a cap n r (seen.set v (r : Int)) := by
 subst hx
 have hset := ownsB_setCellG h.own (g := gs) rfl v (.int .i64 (r : Int))
 rw [← ints_set] at hset
 refine ⟨h.row.frm ((Frm.refl [gs] w).setCell (p := ⟨gs, v, none⟩) (.inl (by simp)) _) (by simpa using h.ne), hset, h.ne, h.lo, fun u hu => ?_⟩
 rw [Tj.ix_set _ _ _ _ (by rw [h.len]; exact hv)]
 split
 ·exact Int.le_refl _
 ·exact h.le u hu
/-- Behind a row that has grown. -/
theorem own_ge {w : World} {B e size n : Nat} {v : Value} {xs : List Value} (h : w.ownsRow B e size v n xs) : ∀ q ∈ v.ownBlock.toList, B ≤ q := by
 intro q hq
 simp only [Option.mem_toList] at hq
 exact (h.lt q hq).1

theorem sel_at {row : List Arc} {silent : Bool} {j : Nat} {e t : Int} (hj : j ≤ (sel row silent).length) (h : row[j]? = some (e, t)) : (follows silent (e, t) = true → (sel row silent)[j]? = some (e, t)) ∧ (follows silent (e, t) = false → (sel row silent).length = j) := by
 cases silent with
 | false => exact ⟨fun _ => by simpa [sel] using h, fun h9 => by simp [follows] at h9⟩
 | true =>
  have hs : sel row true = row.takeWhile isTau := rfl
  rw [hs] at hj ⊢
  have h1 := tw_go hj h
  refine ⟨fun h9 => ?_, fun h9 => h1.2 (by simpa [follows] using h9)⟩
  have h2 := h1.1 (by simpa [follows] using h9)
  obtain ⟨k, hk⟩ := sel_take row true
  rw [hs] at hk
  rw [hk] at h2 ⊢
  rw [List.length_take] at h2
  rw [List.getElem?_take_of_lt (by omega)]
  exact h
theorem esel_of {l : Lts} {silent : Bool} {c : Nat} {row : List Arc} (h : l[c]? = some row) : Esel l silent c = (sel row silent).map fun a => a.2.toNat := by
 have : l.getD c [] = row := by rw [List.getD_eq_getElem?_getD, h]; rfl
 rw [Esel, this]

def WRel (E : Nat → List Nat) (B wb gs : Nat) (a : Option Addr) (cap n r : Nat) (fr : List Nat) (w : World) (i j : Nat) (s7 : Value) (wr : World) : Prop :=
 ∃ (seen : List Int) (out : List Nat) (a7 : Option Addr) (c7 : Nat), s7 = .slice a7 out.length c7 ∧ Wrk E n fr r seen out i j ∧ wr.ownsRow w.heap.size 3 1 (.slice a7 out.length c7) out.length (ints (natI out)) ∧ WkAt B wr wb gs a cap n r seen ∧ Frm [wb, gs] w wr
def WReachEnd (B : Nat) (E : Nat → List Nat) (fr : List Nat) (w' : World) (e : Ending) : Prop :=
 ∃ (a : Option Addr) (c : Nat) (vs : List Nat), e = .returned (.slice a vs.length c) ∧ w'.ownsRow B 3 1 (.slice a vs.length c) vs.length (ints (natI vs)) ∧ IsReach E fr vs

set_option linter.unusedSimpArgs false in
set_option maxRecDepth 100000 in
set_option maxHeartbeats 4000000 in
theorem wreach_any (B wb gs : Nat) (a : Option Addr) (cap : Nat) (l : Lts) (r : Nat) (seen0 : List Int) (fa : Option Addr) (fc : Nat) (fr : List Nat) (silent : Bool) (w : World) (hv : validB l = true) (hw : WkAt B w wb gs a cap l.length r seen0) (hr : r ≤ 1000000)
  (h0 : LAt B w a cap l) (hf0 : ∀ w', Frm [wb, gs] w w' → Rd w.heap.size w' fa fr.length fc 1 (ints (natI fr))) (hfl : ∀ v ∈ fr, v < l.length) :
  Calls Tryz.prog 57 #[.pointer (some ⟨wb, 0, none⟩), .slice fa fr.length fc, .bool silent] w fun e w' => WReachEnd w.heap.size (Esel l silent) fr w' e ∧ (∃ seen, WkAt B w' wb gs a cap l.length (r + 1) seen) ∧ Frm [wb, gs] w w' := by
 have HL0 := Lib.hid h0
 have hbl := hw.lo
 have hbg := (hw.own.lt gs rfl).1
 have HF0 := Lib.hid hf0
 have HFL := Lib.hid hfl
 have HW := Lib.hid hw
 have HV := Lib.hid (vlts_of hv)
 have hfew := (vlts_of hv).few
 have i2 : (l.length : Int) ≤ 16384 := by omega
 have hfrl := (hf0 w (Frm.refl _ _)).lt
 have hbw := hw.row.lt
 have hgw := (hw.own.lt gs rfl).2
 have hne := hw.ne
 have c0 := hw.row.cell (i := 0) rfl
 have c1 := hw.row.cell (i := 1) rfl
 have c2 := hw.row.cell (i := 2) rfl
 have z2 := hw.row.frozen 2
 have hwr : IntKind.i64.wrap ((r : Int) + 1) = (r : Int) + 1 := IntWalk.i64_in _ (by omega)
 have hk1 : WkAt B (w.setCell ⟨wb, 2, none⟩ (.int .i64 ((r : Int) + 1))) wb gs a cap l.length (r + 1) seen0 := by
  refine ⟨?_, own_set hw.own hne, hne, hw.lo, fun v hv => by have := hw.le v hv; push_cast; omega⟩
  have := hw.row.setCell 2 (.int .i64 ((r : Int) + 1))
  simpa using this
 have HK1 := Lib.hid hk1
 have hf1 : Frm [wb, gs] w (w.setCell ⟨wb, 2, none⟩ (.int .i64 ((r : Int) + 1))) := (Frm.refl _ w).setCell (p := ⟨wb, 2, none⟩) (.inl (by simp)) _
 have HF1 := Lib.hid hf1
 have hst : Wrk (Esel l silent) l.length fr (r + 1) seen0 [] 0 0 := Wrk.start hw.len (fun v hv => by have := hw.le v hv; push_cast; omega)
 have HST := Lib.hid hst
 clear h0 hf0 hfl hw hv hk1 hf1 hst
 go_enter Tryz.func57, Tryz.ntmps57
 go_wp2_with fail
 go_loopg [7, 22] fr.length (fun q s7 s22 wr => ∃ (k : Nat), q = fr.length - k ∧ k ≤ fr.length ∧ s22 = .int .i64 (k : Int) ∧ (∃ (seen : List Int) (out : List Nat) (a7 : Option Addr) (c7 : Nat), s7 = .slice a7 out.length c7 ∧ Wrk (Esel l silent) l.length fr (r + 1) seen out 0 0 ∧ wr.ownsRow w.heap.size 3 1 (.slice a7 out.length c7) out.length (ints (natI out)) ∧ WkAt B wr wb gs a cap l.length (r + 1) seen ∧ Frm [wb, gs] w wr ∧ ∀ s ∈ fr.take k, s ∈ out))
 case atStart => exact ⟨0, rfl, Nat.zero_le _, rfl, seen0, [], none, 0, rfl, HST.out, World.ownsRow_nil _ _ _ _, HK1.out, HF1.out, fun s hs => by simp at hs⟩
 case round =>
  obtain ⟨k, rfl, hk, rfl, seen, out, a7, c7, rfl, hwk, hown, hat, hF, hall⟩ := hrel
  have HWK := Lib.hid hwk
  have HOWN := Lib.hid hown
  have HAT := Lib.hid hat
  have HF := Lib.hid hF
  have HALL := Lib.hid hall
  have b1 := hat.row.cell (i := 1) rfl
  have b2 := hat.row.cell (i := 2) rfl
  have b0 := hat.row.cell (i := 0) rfl
  have i4 : (0 : Int) ≤ (k : Int) := by omega
  have holn := hwk.few
  have hszr := hF.size
  clear hwk hown hat hF hall c0 c1 c2 z2
  by_cases hkl : k < fr.length
  ·have i5 : (k : Int) < (fr.length : Int) := by omega
   obtain ⟨u, hu⟩ : ∃ u, fr[k]? = some u := ⟨_, List.getElem?_eq_getElem hkl⟩
   have hul := HFL.out u (List.mem_of_getElem? hu)
   obtain ⟨fb, fo, rfl, hfb, cf⟩ := (HF0.out wr HF.out).at (natI_get hu)
   have co := (own_rowg2 HAT.out.own).cell (ints_get (ix_some HAT.out.len hul))
   have zo := (own_rowg2 HAT.out.own).frozen u
   obtain ⟨x, hx⟩ : ∃ x, Tj.ix seen u = x := ⟨_, rfl⟩
   rw [hx] at co
   have HX := Lib.hid hx
   have HU := Lib.hid hu
   have i6 : (0 : Int) ≤ (u : Int) := by omega
   have i7 : (u : Int) < (l.length : Int) := by omega
   clear hx hu
   by_cases hxr : x = (r : Int) + 1
   ·subst hxr
    have hmem : u ∈ out := (HWK.out.mem u).2 ⟨hul, by rw [HX.out]; push_cast; rfl⟩
    have HALL2 : Hid (∀ s ∈ fr.take (k + 1), s ∈ out) := Lib.hid (fun s hs => by
     rw [List.take_add_one, HU.out, Option.toList_some] at hs
     rcases List.mem_append.1 hs with hs | hs
     ·exact HALL.out s hs
     ·rw [List.mem_singleton] at hs; rw [hs]; exact hmem)
    clear hmem
    go_wp2_with fail
    go_quiet (fail)
    go_wp2_with fail
    go_roundg (fr.length - (k + 1))
    case rel => exact ⟨k + 1, rfl, hkl, by go_num, seen, out, a7, c7, rfl, HWK.out, owns_drewN HOWN.out nq, HAT.out.nil ((Frm.refl [] wr).drewN nq), HF.out.drewN nq, HALL2.out⟩
    case measure => omega
   ·have hxb : (x == (r : Int) + 1) = false := by simpa using hxr
    have i8 : (out.length : Int) ≤ 16384 := by omega
    go_wp2_with fail
    go_quiet (fail)
    go_wp2_with fail
    have hown0 := HOWN.out
    have HWK2 : Hid (Wrk (Esel l silent) l.length fr (r + 1) (seen.set u (((r + 1 : Nat)) : Int)) (out ++ [u]) 0 0) := Lib.hid (HWK.out.add hul (by rw [HX.out]; push_cast; exact hxr) ⟨u, List.mem_of_getElem? HU.out, .refl u⟩ (.inr ⟨rfl, rfl⟩))
    have HALL2 : Hid (∀ s ∈ fr.take (k + 1), s ∈ out ++ [u]) := Lib.hid (fun s hs => by
     rw [List.take_add_one, HU.out, Option.toList_some] at hs
     rcases List.mem_append.1 hs with hs | hs
     ·exact List.mem_append_left _ (HALL.out s hs)
     ·exact List.mem_append_right _ hs)
    clear hown0
    go_region
    have hsne : ∀ q, (Value.slice a7 out.length c7).ownBlock = some q → q ≠ gs := fun q hq => by
     have := (HOWN.out.lt q hq).1
     omega
    have HOWNS := Lib.hid (own_setv (i := u) (u := .int .i64 ((r : Int) + 1)) (p := gs) (owns_drewN (HOWN.out) (nq + 1)) hsne)
    have HATS := Lib.hid (((HAT.out).nil ((Frm.refl [] wr).drewN (nq + 1))).mark hul ((r : Int) + 1) (by push_cast; rfl))
    have HFS := Lib.hid (((HF.out).drewN (nq + 1)).setCell (p := ⟨gs, u, none⟩) (.inl (by simp)) (.int .i64 ((r : Int) + 1)))
    go_wp2_with (first | (at_builtin; refine wpl_app_int rfl (.tmp 48) (.tmp 50) rfl w.heap.size out.length (out.length + 1) (.slice a7 out.length c7) (natI out) rfl (HOWNS.out.alloc _) (natI_len _) ⟨wr.heap.size, 0, none⟩ 1 1 [(u : Int)] rfl rfl (cells_new_at _ (u : Int) _ _ (by simp [World.setCell])) rfl (by omega) (by simp [World.setCell]; omega) ?_) | (at_builtin; fail))
    intro a9 c9 w9 hown9 _ hf9
    have hown9' : w9.ownsRow w.heap.size 3 1 (.slice a9 (out ++ [u]).length c9) (out ++ [u]).length (ints (natI (out ++ [u]))) := by
     rw [List.length_append, natI, List.map_append]
     exact hown9
    have HOWN9 := Lib.hid hown9'
    have HF9 := Lib.hid (hf9 [wb, gs] w (fun q hq => .inr (HOWN.out.lt q hq).1) (HFS.out.alloc _))
    have hfo := hf9 (Value.slice a7 out.length c7).ownBlock.toList _ (fun q hq => .inl (by simp [hq])) (Frm.refl _ _)
    have hge := own_ge HOWN.out
    have HAT9 := Lib.hid ((HATS.out.nil ((Frm.refl [] _).alloc (.cells #[.int .i64 (u : Int)] 3))).frm hfo (fun hm => by have := hge _ hm; omega) (fun hm => by have := hge _ hm; omega))
    clear hown9 hf9 hown9' hfo hge hsne
    go_wp2_with fail
    go_roundg (fr.length - (k + 1))
    case rel => exact ⟨k + 1, rfl, hkl, by go_num, _, out ++ [u], a9, c9, by rw [List.length_append]; rfl, HWK2.out, HOWN9.out, HAT9.out, HF9.out, HALL2.out⟩
    case measure => omega
  ·have i5 : ¬ (k : Int) < (fr.length : Int) := by omega
   have hkk : k = fr.length := by omega
   have hall := HALL.out
   rw [hkk, List.take_length] at hall
   have HFRO := Lib.hid hall
   obtain ⟨wq, hwqe⟩ : ∃ x, x = wr := ⟨wr, rfl⟩
   subst hwqe
   have HREL : Hid (WRel (Esel l silent) B wb gs a cap l.length (r + 1) fr w 0 0 (.slice a7 out.length c7) wq) := Lib.hid ⟨seen, out, a7, c7, rfl, HWK.out, HOWN.out, HAT.out, HF.out⟩
   have HSUB := Lib.hid hall
   clear hkk hall
   go_wp2_with fail
   go_loopg [7, 10] l.length (fun q s7 s10 wr => ∃ (i : Nat) (out' : List Nat), q = l.length - i ∧ s10 = .int .i64 (i : Int) ∧ (∃ (seen : List Int) (a7 : Option Addr) (c7 : Nat), s7 = .slice a7 out'.length c7 ∧ i ≤ out'.length ∧ Wrk (Esel l silent) l.length fr (r + 1) seen out' i 0 ∧ wr.ownsRow w.heap.size 3 1 (.slice a7 out'.length c7) out'.length (ints (natI out')) ∧ WkAt B wr wb gs a cap l.length (r + 1) seen ∧ Frm [wb, gs] w wr ∧ ∀ s ∈ fr, s ∈ out'))
   case atStart => exact ⟨0, out, rfl, rfl, seen, a7, c7, rfl, Nat.zero_le _, HWK.out, HOWN.out, HAT.out, HF.out, HSUB.out⟩
   case round =>
    clear HWK HOWN HAT HF HALL HREL HSUB HFRO b0 b1 b2
    obtain ⟨i, out1, rfl, rfl, seen1, a1, c1, rfl, hio, hwk, hown, hat, hF, hsub⟩ := hrel
    obtain ⟨wp, hwpe⟩ : ∃ x, x = wr := ⟨wr, rfl⟩
    subst hwpe
    have HWK := Lib.hid hwk
    have HOWN := Lib.hid hown
    have HAT := Lib.hid hat
    have HF := Lib.hid hF
    have HSUB := Lib.hid hsub
    have b0 := hat.row.cell (i := 0) rfl
    have i4 : (0 : Int) ≤ (i : Int) := by omega
    have holn := hwk.few
    have hszr := hF.size
    clear hwk hown hat hF hsub
    by_cases hil : i < out1.length
    ·have i5 : (i : Int) < (out1.length : Int) := by omega
     obtain ⟨c, hc⟩ : ∃ c, out1[i]? = some c := ⟨_, List.getElem?_eq_getElem hil⟩
     have hcl := ((HWK.out.mem c).1 (List.mem_of_getElem? hc)).1
     obtain ⟨g1, cc1, he1, _, _, hr1⟩ := owns_some (ownsB_mono HOWN.out (Nat.zero_le _)) (show 0 < out1.length by omega)
     obtain ⟨rfl, rfl⟩ : a1 = some ⟨g1, 0, none⟩ ∧ c1 = cc1 := by simpa using he1
     have cc := hr1.cell (ints_get (natI_get hc))
     obtain ⟨row, hrow⟩ : ∃ row, l[c]? = some row := ⟨_, List.getElem?_eq_getElem hcl⟩
     obtain ⟨bl, ol, ra, rc, hla, hblB, q1, hrr⟩ := HL0.out.cell c row hrow
     have hla' := hla
     subst hla'
     have hfewr := (HV.out.row row (List.mem_of_getElem? hrow)).few
     have q2 := HF.out.cell q1 (by simp; omega)
     have HRR := Lib.hid hrr
     have i6 : (row.length : Int) ≤ 262144 := by omega
     have i7 : (0 : Int) ≤ (c : Int) := by omega
     have i8 : (c : Int) < (l.length : Int) := by omega
     have HC := Lib.hid hc
     have HROW := Lib.hid hrow
     clear he1 hr1 hc hrow hrr q1 hla
     go_wp2_with fail
     go_quiet (fail)
     go_wp2_with fail
     go_loopg [7, 71] row.length (fun q s7 s71 wr => ∃ (j : Nat) (seen : List Int) (out : List Nat) (a7 : Option Addr) (c7 : Nat), q = row.length - j ∧ j ≤ (sel row silent).length ∧ s71 = .int .i64 (j : Int) ∧ s7 = .slice a7 out.length c7 ∧ Wrk (Esel l silent) l.length fr (r + 1) seen out i j ∧ out[i]? = some c ∧ wr.ownsRow w.heap.size 3 1 (.slice a7 out.length c7) out.length (ints (natI out)) ∧ WkAt B wr wb gs (some ⟨bl, ol, none⟩) cap l.length (r + 1) seen ∧ Frm [wb, gs] w wr ∧ ∀ s ∈ fr, s ∈ out)
     case atStart => exact ⟨0, seen1, out1, _, c1, rfl, Nat.zero_le _, rfl, rfl, HWK.out, HC.out, owns_drewN HOWN.out nq, HAT.out.nil ((Frm.refl [] wp).drewN nq), HF.out.drewN nq, HSUB.out⟩
     case round =>
      clear HWK HOWN HAT HF HSUB HC q2 cc b0 hszr holn
      obtain ⟨j, seen, out, a7, c7, rfl, hjs, rfl, rfl, hwk, hci, hown, hat, hF, hsub⟩ := hrel
      have HWK := Lib.hid hwk
      have HC := Lib.hid hci
      have HOWN := Lib.hid hown
      have HAT := Lib.hid hat
      have HF := Lib.hid hF
      have HSUB := Lib.hid hsub
      have hszr := hF.size
      have b0 := hat.row.cell (i := 0) rfl
      have b1 := hat.row.cell (i := 1) rfl
      have b2 := hat.row.cell (i := 2) rfl
      have nb := World.block_lt_of_cell? _ _ b1
      have i9 : (0 : Int) ≤ (j : Int) := by omega
      have holn := hwk.few
      have hio2 := (List.getElem?_eq_some_iff.1 hci).1
      simp only at nb
      clear hwk hci hown hat hF hsub
      by_cases hjl : j < row.length
      ·have i10 : (j : Int) < (row.length : Int) := by omega
       obtain ⟨⟨e, t⟩, harc⟩ : ∃ y, row[j]? = some y := ⟨_, List.getElem?_eq_getElem hjl⟩
       have hok := (HV.out.row row (List.mem_of_getElem? HROW.out)).ok e t (List.mem_of_getElem? harc)
       obtain ⟨m, rfl⟩ : ∃ m : Nat, t = (m : Int) := ⟨t.toNat, by omega⟩
       have hml : m < l.length := by omega
       obtain ⟨g3, o3, rfl, hg3, p1, p2⟩ := HRR.out.2.2.2 j e m harc
       have d1 := HF.out.cell p1 (by simp; omega)
       have d2 := HF.out.cell p2 (by simp; omega)
       have n1 := World.block_lt_of_cell? _ _ d1
       simp only at n1
       have hsa := sel_at hjs harc
       have HSA := Lib.hid hsa
       have co := (own_rowg2 HAT.out.own).cell (ints_get (ix_some HAT.out.len hml))
       have zo := (own_rowg2 HAT.out.own).frozen m
       have ng := World.block_lt_of_cell? _ _ co
       simp only at ng
       obtain ⟨x, hx⟩ : ∃ x, Tj.ix seen m = x := ⟨_, rfl⟩
       rw [hx] at co
       have HX := Lib.hid hx
       have i11 : (0 : Int) ≤ (m : Int) := by omega
       have i12 : (m : Int) < (l.length : Int) := by omega
       have i13 : (out.length : Int) ≤ 16384 := by omega
       clear harc hok p1 p2 hsa hx
       by_cases hbrk : silent = true ∧ e ≠ 0
       ·obtain ⟨rfl, he0⟩ := hbrk
        have heb : (e == 0) = false := by simpa using he0
        have hend : (Esel l true c).length ≤ j := by
         rw [esel_of HROW.out, List.length_map, HSA.out.2 (by simp [follows, he0])]
         exact Nat.le_refl _
        have HNX := Lib.hid (HWK.out.next HC.out hend)
        clear hend
        go_wp2_with fail
        go_roundg (l.length - (i + 1))
        case rel => exact ⟨i + 1, out, rfl, by go_num, seen, a7, c7, rfl, hio2, HNX.out, HOWN.out.alloc _, HAT.out.nil ((Frm.refl [] wr).alloc _), HF.out.alloc _, HSUB.out⟩
        case measure => omega
       ·have hfol : follows silent (e, (m : Int)) = true := by
         cases silent with
         | false => simp [follows]
         | true =>
          have : e = 0 := Decidable.byContradiction (fun h9 => hbrk ⟨rfl, h9⟩)
          simp [follows, this]
        have hEm : (Esel l silent c)[j]? = some m := by
         rw [esel_of HROW.out, List.getElem?_map, HSA.out.1 hfol]
         simp
        have hjs2 : j + 1 ≤ (sel row silent).length := (List.getElem?_eq_some_iff.1 (HSA.out.1 hfol)).1
        have HEM := Lib.hid hEm
        have hata := HAT.out.nil ((Frm.refl [] wr).alloc (.cells #[.int .i64 e, .int .i64 (m : Int)] 66))
        have HATA := Lib.hid hata
        have HSIL : Hid (silent = true → e = 0) := Lib.hid (fun h9 => Decidable.byContradiction (fun h8 => hbrk ⟨h9, h8⟩))
        clear hfol hEm hbrk hata
        by_cases hxr : x = (r : Int) + 1
        ·subst hxr
         have hmem : m ∈ out := (HWK.out.mem m).2 ⟨hml, by rw [HX.out]; push_cast; rfl⟩
         have HMK := Lib.hid (HWK.out.mark HC.out HEM.out hmem)
         clear hmem
         cases silent with
         | false =>
          go_wp2_with fail
          go_quiet (fail)
          go_wp2_with fail
          go_roundg (row.length - (j + 1))
          case rel => exact ⟨j + 1, seen, out, a7, c7, rfl, hjs2, by go_num, rfl, HMK.out, HC.out, owns_drewN (HOWN.out.alloc _) nq, HATA.out.nil ((Frm.refl [] _).drewN nq), (HF.out.alloc _).drewN nq, HSUB.out⟩
          case measure => omega
         | true =>
          obtain rfl := HSIL.out rfl
          go_wp2_with fail
          go_quiet (fail)
          go_wp2_with fail
          go_roundg (row.length - (j + 1))
          case rel => exact ⟨j + 1, seen, out, a7, c7, rfl, hjs2, by go_num, rfl, HMK.out, HC.out, owns_drewN (HOWN.out.alloc _) nq, HATA.out.nil ((Frm.refl [] _).drewN nq), (HF.out.alloc _).drewN nq, HSUB.out⟩
          case measure => omega
        ·have hxb : (x == (r : Int) + 1) = false := by simpa using hxr
         have hci2 : (out ++ [m])[i]? = some c := by rw [List.getElem?_append_left hio2]; exact HC.out
         have hpm : ∃ s ∈ fr, Path (Esel l silent) s m := by
          obtain ⟨s, hs, hp⟩ := HWK.out.snd c (List.mem_of_getElem? HC.out)
          exact ⟨s, hs, hp.snoc (List.mem_of_getElem? HEM.out)⟩
         have hadd := HWK.out.add hml (by rw [HX.out]; push_cast; exact hxr) hpm (.inl hio2)
         have HMK := Lib.hid (hadd.mark hci2 HEM.out (by simp))
         have HC2 := Lib.hid hci2
         clear hadd hpm hci2
         cases silent with
         | false =>
          go_wp2_with fail
          go_quiet (fail)
          go_wp2_with fail
          go_region
          have hsne : ∀ q, (Value.slice a7 out.length c7).ownBlock = some q → q ≠ gs := fun q hq => by
           have := (HOWN.out.lt q hq).1
           omega
          have HOWNS := Lib.hid (own_setv (i := m) (u := .int .i64 ((r : Int) + 1)) (p := gs) (owns_drewN (HOWN.out.alloc (.cells #[.int .i64 e, .int .i64 (m : Int)] 66)) (nq + 1)) hsne)
          have HATS := Lib.hid (((HATA.out).nil ((Frm.refl [] (wr.alloc (.cells #[.int .i64 e, .int .i64 (m : Int)] 66))).drewN (nq + 1))).mark hml ((r : Int) + 1) (by push_cast; rfl))
          have HFS := Lib.hid (((HF.out.alloc (.cells #[.int .i64 e, .int .i64 (m : Int)] 66)).drewN (nq + 1)).setCell (p := ⟨gs, m, none⟩) (.inl (by simp)) (.int .i64 ((r : Int) + 1)))
          go_wp2_with (first | (at_builtin; refine wpl_app_int rfl (.tmp 105) (.tmp 108) rfl w.heap.size out.length (out.length + 1) (.slice a7 out.length c7) (natI out) rfl (HOWNS.out.alloc _) (natI_len _) ⟨wr.heap.size + 1, 0, none⟩ 1 1 [(m : Int)] rfl rfl (cells_new_at _ (m : Int) _ _ (by simp [World.setCell])) rfl (by omega) (by simp [World.setCell]; omega) ?_) | (at_builtin; fail))
          intro a9 c9 w9 hown9 _ hf9
          have hown9' : w9.ownsRow w.heap.size 3 1 (.slice a9 (out ++ [m]).length c9) (out ++ [m]).length (ints (natI (out ++ [m]))) := by
           rw [List.length_append, natI, List.map_append]
           exact hown9
          have HOWN9 := Lib.hid hown9'
          have HF9 := Lib.hid (hf9 [wb, gs] w (fun q hq => .inr (HOWN.out.lt q hq).1) (HFS.out.alloc _))
          have hfo := hf9 (Value.slice a7 out.length c7).ownBlock.toList _ (fun q hq => .inl (by simp [hq])) (Frm.refl _ _)
          have hge := own_ge HOWN.out
          have HAT9 := Lib.hid ((HATS.out.nil ((Frm.refl [] _).alloc (.cells #[.int .i64 (m : Int)] 3))).frm hfo (fun hm => by have := hge _ hm; omega) (fun hm => by have := hge _ hm; omega))
          clear hown9 hf9 hown9' hfo hge hsne
          go_wp2_with fail
          go_roundg (row.length - (j + 1))
          case rel => exact ⟨j + 1, _, out ++ [m], a9, c9, rfl, hjs2, by go_num, by rw [List.length_append]; rfl, HMK.out, HC2.out, HOWN9.out, HAT9.out, HF9.out, fun s hs => List.mem_append_left _ (HSUB.out s hs)⟩
          case measure => omega
         | true =>
          obtain rfl := HSIL.out rfl
          go_wp2_with fail
          go_quiet (fail)
          go_wp2_with fail
          go_region
          have hsne : ∀ q, (Value.slice a7 out.length c7).ownBlock = some q → q ≠ gs := fun q hq => by
           have := (HOWN.out.lt q hq).1
           omega
          have HOWNS := Lib.hid (own_setv (i := m) (u := .int .i64 ((r : Int) + 1)) (p := gs) (owns_drewN (HOWN.out.alloc (.cells #[.int .i64 0, .int .i64 (m : Int)] 66)) (nq + 1)) hsne)
          have HATS := Lib.hid (((HATA.out).nil ((Frm.refl [] (wr.alloc (.cells #[.int .i64 0, .int .i64 (m : Int)] 66))).drewN (nq + 1))).mark hml ((r : Int) + 1) (by push_cast; rfl))
          have HFS := Lib.hid (((HF.out.alloc (.cells #[.int .i64 0, .int .i64 (m : Int)] 66)).drewN (nq + 1)).setCell (p := ⟨gs, m, none⟩) (.inl (by simp)) (.int .i64 ((r : Int) + 1)))
          go_wp2_with (first | (at_builtin; refine wpl_app_int rfl (.tmp 105) (.tmp 108) rfl w.heap.size out.length (out.length + 1) (.slice a7 out.length c7) (natI out) rfl (HOWNS.out.alloc _) (natI_len _) ⟨wr.heap.size + 1, 0, none⟩ 1 1 [(m : Int)] rfl rfl (cells_new_at _ (m : Int) _ _ (by simp [World.setCell])) rfl (by omega) (by simp [World.setCell]; omega) ?_) | (at_builtin; fail))
          intro a9 c9 w9 hown9 _ hf9
          have hown9' : w9.ownsRow w.heap.size 3 1 (.slice a9 (out ++ [m]).length c9) (out ++ [m]).length (ints (natI (out ++ [m]))) := by
           rw [List.length_append, natI, List.map_append]
           exact hown9
          have HOWN9 := Lib.hid hown9'
          have HF9 := Lib.hid (hf9 [wb, gs] w (fun q hq => .inr (HOWN.out.lt q hq).1) (HFS.out.alloc _))
          have hfo := hf9 (Value.slice a7 out.length c7).ownBlock.toList _ (fun q hq => .inl (by simp [hq])) (Frm.refl _ _)
          have hge := own_ge HOWN.out
          have HAT9 := Lib.hid ((HATS.out.nil ((Frm.refl [] _).alloc (.cells #[.int .i64 (m : Int)] 3))).frm hfo (fun hm => by have := hge _ hm; omega) (fun hm => by have := hge _ hm; omega))
          clear hown9 hf9 hown9' hfo hge hsne
          go_wp2_with fail
          go_roundg (row.length - (j + 1))
          case rel => exact ⟨j + 1, _, out ++ [m], a9, c9, rfl, hjs2, by go_num, by rw [List.length_append]; rfl, HMK.out, HC2.out, HOWN9.out, HAT9.out, HF9.out, fun s hs => List.mem_append_left _ (HSUB.out s hs)⟩
          case measure => omega
      ·have i10 : ¬ (j : Int) < (row.length : Int) := by omega
       have hend : (Esel l silent c).length ≤ j := by
        rw [esel_of HROW.out, List.length_map]
        have := sel_len row silent
        omega
       have HNX := Lib.hid (HWK.out.next HC.out hend)
       clear hend
       go_wp2_with fail
       go_roundg (l.length - (i + 1))
       case rel => exact ⟨i + 1, out, rfl, by go_num, seen, a7, c7, rfl, hio2, HNX.out, HOWN.out, HAT.out, HF.out, HSUB.out⟩
       case measure => omega
    ·have i5 : ¬ (i : Int) < (out1.length : Int) := by omega
     have hfin := HWK.out.finish (by omega) HSUB.out
     obtain ⟨vs, hvs, hvl, hasc, hmem⟩ := sorted_nat HWK.out.nd
     have HVS := Lib.hid hvs
     have HIR : Hid (IsReach (Esel l silent) fr vs) := Lib.hid ⟨hasc, fun v => (hmem v).trans (hfin v)⟩
     have HVL := Lib.hid hvl
     clear hfin hvs hasc hmem hvl
     go_wp2_with fail
     refine (sort_any w.heap.size a1 c1 out1.length (natI out1) wp HOWN.out (by omega)).mono ?_
     rintro e9 w9 ⟨⟨rfl, hown9⟩, hf9⟩
     rw [HVS.out] at hown9
     have hge := own_ge HOWN.out
     have HAT9 := Lib.hid (HAT.out.frm hf9 (fun hm => by have := hge _ hm; omega) (fun hm => by have := hge _ hm; omega))
     have HF9 := Lib.hid (HF.out.trans hf9 (fun q hq => .inr (hge q hq)))
     have HEND : Hid (WReachEnd w.heap.size (Esel l silent) fr w9 (.returned (.slice a1 out1.length c1))) := Lib.hid ⟨a1, c1, vs, by rw [HVL.out], by rw [HVL.out]; exact hown9, HIR.out⟩
     clear hown9 hf9 hge
     go_wp2_with fail
     go_ret
     exact ⟨HEND.out, ⟨seen1, HAT9.out⟩, HF9.out⟩

end Go.Proofs.YtikpcipkkhmcfaaGreat
