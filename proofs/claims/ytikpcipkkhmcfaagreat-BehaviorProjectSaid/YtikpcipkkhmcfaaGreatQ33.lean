/- Texts Y5, VR, VS. -/
import Derived.Test.YtikpcipkkhmcfaaGreatQ17
import Derived.Test.YtikpcipkkhmcfaaGreatQ19
import Derived.Test.YtikpcipkkhmcfaaGreatQ15
import Derived.Test.YtikpcipkkhmcfaaGreatQ28
import Derived.Test.YtikpcipkkhmcfaaGreatQ29
import Derived.Test.YtikpcipkkhmcfaaGreatQ32
import Derived.Test.YtikpcipkkhmcfaaGreatQ18
/- Contract of graph.Divergent. -/
namespace Go.Proofs.YtikpcipkkhmcfaaGreat
open Go.RowKit

theorem comps_ok (B0 : Nat) (a : Option Addr) (cap : Nat) (l : Lts) (silent : Bool) (w : World) (h : LAt B0 w a cap l) (hv : validB l = true) :
  Calls Tryz.prog 89 #[.agg #[.slice a l.length cap], .bool silent] w fun e w' => (∃ g out, e = .returned (.slice (some ⟨g, 0, none⟩) l.length l.length) ∧ w'.ownsRow w.heap.size 3 1 (.slice (some ⟨g, 0, none⟩) l.length l.length) l.length (ints out) ∧ Tj.IsComp (Esel l silent) l.length out) ∧ Frm [] w w' := by
 refine (comps_any B0 a cap l silent w h).mono ?_
 rintro e w' ⟨h1, hf⟩
 rw [CompEnd, if_pos hv] at h1
 exact ⟨h1, hf⟩

def DivEnd (B : Nat) (l : Lts) (w' : World) (e : Ending) : Prop :=
 if validB l = true then ∃ g bs, e = .returned (.slice (some ⟨g, 0, none⟩) l.length l.length) ∧ w'.ownsRow B 4 1 (.slice (some ⟨g, 0, none⟩) l.length l.length) l.length (bools bs) ∧ IsDiv (Esel l true) l.length bs
 else e = .returned (.slice none 0 0)

set_option linter.unusedSimpArgs false in
set_option maxRecDepth 100000 in
set_option maxHeartbeats 2000000 in
theorem divergent_any (B0 : Nat) (a : Option Addr) (cap : Nat) (l : Lts) (w : World) (h : LAt B0 w a cap l) :
  Calls Tryz.prog 55 #[.agg #[.slice a l.length cap]] w fun e w' => DivEnd w.heap.size l w' e ∧ Frm [] w w' := by
 have f0 : Frm [] w (w.alloc (.cells #[.slice a l.length cap] 25)) := (Frm.refl [] w).alloc _
 have hcut0 := h.cut
 clear h
 have h := hcut0
 clear hcut0
 have hbox := box1 w (.slice a l.length cap) 25
 have HB := Lib.hid hbox
 have HL0 := Lib.hid (h.nil f0 rfl)
 have hva := valid_any w.heap.size a cap l _ (h.nil f0 rfl)
 have hl := h.lt
 clear h hbox
 go_enter Tryz.func55, Tryz.ntmps55
 go_wp2_with fail
 refine hva.mono ?_
 rintro e1 w1 ⟨rfl, hf1⟩
 clear hva
 have F1 := f0.trans hf1 (by simp)
 have hb1 := (HB.out.frm hf1 (by simp)).cell (i := 0) rfl
 cases hv : validB l with
 | false =>
  have HR : Hid (DivEnd w.heap.size l w1 (.returned (.slice none 0 0))) := Lib.hid (by rw [DivEnd, if_neg (by rw [hv]; simp)])
  clear hv
  go_wp2_with fail
  go_ret
  exact ⟨HR.out, F1⟩
 | true =>
  have HVB := Lib.hid hv
  have HV := Lib.hid (vlts_of hv)
  have hfew := (vlts_of hv).few
  have i2 : (l.length : Int) ≤ 16384 := by omega
  have HF1 := Lib.hid F1
  have HL1 := Lib.hid (HL0.out.nil hf1 rfl)
  have C1 := Lib.hid hb1
  have hsz1 := hf1.size
  simp only [World.alloc, Array.size_push] at hsz1
  clear hv F1 hf1 hb1
  go_wp2_with fail
  go_region_held3 (fun w' => w'.cell? ⟨w.heap.size, 0, none⟩ = some (.slice a l.length cap)) (first | exact C1.out | exact hf7.cell C1.out (by simp) | exact hf6.cell C1.out (by simp) | exact hf5.cell C1.out (by simp)) (first | (go_at_call 89; (with_reducible refine (comps_ok w.heap.size a cap l true _ (HL1.out.nil ((Frm.refl [] w1).drew) rfl) HVB.out).mono ?_); rintro e5 w5 ⟨h5, hf50⟩; obtain ⟨g5, out5, rfl, hown5, hic5⟩ := h5; have hf5 := ((Frm.refl [] w1).drew).trans hf50 (by simp)) | (go_at_call 88; (with_reducible refine (looping_any w5.heap.size a cap l HV.out (some ⟨g5, 0, none⟩) l.length out5 w5 (HL1.out.nil hf5 rfl).cut (rd_of_owns hown5 (Nat.le_refl _)) (Nat.le_refl _)).mono ?_); rintro e6 w6 ⟨g6, rfl, hown6, hf60⟩; have hf6 := hf5.trans hf60 (by simp)) | (go_at_call 87; (with_reducible refine (distances_any w6.heap.size a cap l HV.out (some ⟨g6, 0, none⟩) l.length ((List.range l.length).map (loopF (Esel l true) out5)) w6 (HL1.out.nil hf6 rfl).cut (rd_of_owns hown6 (Nat.le_refl _)) (Nat.le_refl _)).mono ?_); rintro e7 w7 ⟨h7, hf70⟩; obtain ⟨g7, out7, rfl, hown7, hid7⟩ := h7; have hf7 := hf6.trans hf70 (by simp)))
  have HF7 := Lib.hid hf7
  have HROW7 := Lib.hid hown7
  have HID := Lib.hid (isDist_loops hic5 (esel_edge HV.out true) hid7)
  have C7 := hf7.cell C1.out (by simp)
  have hsz7 := hf7.size
  have hsz6 := hf6.size
  have hsz61 := hf70.size
  have hg7 := (hown7.lt g7 rfl)
  clear hown5 hic5 hf50 hf5 hown6 hf60 hf6 hown7 hid7 hf70 hf7
  go_wp2_with (first | (at_make; refine wpl_make_b _ rfl (.tmp 17) rfl _ l.length rfl rfl (by omega) ?_) | (at_make; fail))
  intro w8 hown8 hf8
  rw [← bsAt_zero l.length (divF out7)] at hown8
  have HOWN8 := Lib.hid hown8
  have HF8 := Lib.hid hf8
  clear hown8 hf8 C7
  go_wp2_with fail
  go_loopg [21] l.length (fun q i wr => ∃ (k : Nat), q = l.length - k ∧ k ≤ l.length ∧ i = .int .i64 (k : Int) ∧ wr.ownsRow w7.heap.size 4 1 (.slice (some ⟨w7.heap.size, 0, none⟩) l.length l.length) l.length (bools (bsAt l.length (divF out7) k false)) ∧ Frm [w7.heap.size] w8 wr)
  case atStart => exact ⟨0, rfl, Nat.zero_le _, rfl, HOWN8.out, Frm.refl _ _⟩
  case round =>
   obtain ⟨k, rfl, hk, rfl, hown, hF⟩ := hrel
   have HOWN := Lib.hid hown
   have HF := Lib.hid hF
   have HFB := Lib.hid ((HF8.out.mono (fq := [w7.heap.size]) (by simp)).trans hF (by simp))
   have i4 : (0 : Int) ≤ (k : Int) := by omega
   clear hown hF
   by_cases hlt2 : k < l.length
   ·have i5 : (k : Int) < (l.length : Int) := by omega
    have hx : out7[k]? = some (Tj.ix out7 k) := ix_some HID.out.len hlt2
    have c7 := HFB.out.cell ((own_rowg2 HROW7.out).cell (ints_get hx)) (by simp; omega)
    have zf := (own_rowg2 HOWN.out).frozen k
    have cf := (own_rowg2 HOWN.out).cell (bools_get (bsAt_get l.length (divF out7) k false k hlt2))
    have n1 := World.block_lt_of_cell? _ _ c7
    simp only at n1
    obtain ⟨x, hxx⟩ : ∃ x, Tj.ix out7 k = x := ⟨_, rfl⟩
    rw [hxx] at c7
    have HXX := Lib.hid hxx
    clear hx hxx
    go_wp2_with fail
    go_roundg (l.length - (k + 1))
    case rel =>
     refine ⟨k + 1, rfl, hlt2, by go_num, ?_, ?_⟩
     ·have h9 := ownsB_setCellG HOWN.out (g := w7.heap.size) rfl k (.bool (divF out7 k))
      rw [← bools_set, bsAt_set, bsAt_next] at h9
      have h8 : divF out7 k = decide (0 ≤ x) := by rw [divF, HXX.out]
      rw [h8] at h9
      first | exact h9 | exact owns_drew h9 | exact owns_drewN h9 _
     ·exact HF.out.setCell (p := ⟨w7.heap.size, k, none⟩) (.inl (by simp)) _
    case measure => omega
   ·have i5 : ¬ (k : Int) < (l.length : Int) := by omega
    have hkl : k = l.length := by omega
    subst hkl
    have hfin := (HF1.out.trans HF7.out (by simp)).trans HFB.out (by simp; omega)
    have HFIN := Lib.hid hfin
    have hend : DivEnd w.heap.size l wr (.returned (.slice (some ⟨w7.heap.size, 0, none⟩) l.length l.length)) := by
     rw [DivEnd, if_pos HVB.out]
     have h9 := HOWN.out
     rw [bsAt_end] at h9
     exact ⟨_, _, rfl, ownsB_mono h9 (by omega), isDiv_of (esel_edge HV.out true) HID.out⟩
    have HEND := Lib.hid hend
    clear hfin hend
    go_wp2_with fail
    go_ret
    exact ⟨HEND.out, HFIN.out⟩

end Go.Proofs.YtikpcipkkhmcfaaGreat

/- Contract of behavior.entry. -/
namespace Go.Proofs.YtikpcipkkhmcfaaGreat.Beh
open Go.Shelf Go.RowKit Go.Lib Go.Sort Go.Maps Go.Proofs.YtikpcipkkhmcfaaGreat Go.Proofs.YtikpcipkkhmcfaaGreat.Ind

/-- Each list once, in the order of the first. -/
def onceL (l : List (List Int)) : List (List Int) := l.foldl (fun acc x => if x ∈ acc then acc else acc ++ [x]) []
theorem onceL_snoc (l : List (List Int)) (x : List Int) : onceL (l ++ [x]) = if x ∈ onceL l then onceL l else onceL l ++ [x] := by
 unfold onceL
 rw [List.foldl_append]; rfl
theorem mem_onceL (l : List (List Int)) : ∀ x, x ∈ onceL l ↔ x ∈ l := by
 have h : ∀ (n : Nat) (l : List (List Int)), l.length = n → ∀ x, x ∈ onceL l ↔ x ∈ l := by
  intro n
  induction n with
  | zero => intro l hl x; rw [List.eq_nil_of_length_eq_zero hl]; simp [onceL]
  | succ n ih =>
   intro l hl x
   rcases List.eq_nil_or_concat l with rfl | ⟨r, y, rfl⟩
   ·simp at hl
   ·rw [List.concat_eq_append] at hl ⊢
    have ih := ih r (by simpa using hl)
    rw [onceL_snoc]
    split
    ·rename_i hy
     rw [ih x, List.mem_append, List.mem_singleton]
     exact ⟨.inl, fun h => h.elim id (fun e => by rw [e]; exact (ih y).1 hy)⟩
    ·rw [List.mem_append, List.mem_append, ih x]
 exact h l.length l rfl
theorem onceL_nd (l : List (List Int)) : (onceL l).Nodup := by
 have h : ∀ (n : Nat) (l : List (List Int)), l.length = n → (onceL l).Nodup := by
  intro n
  induction n with
  | zero => intro l hl; rw [List.eq_nil_of_length_eq_zero hl]; simp [onceL]
  | succ n ih =>
   intro l hl
   rcases List.eq_nil_or_concat l with rfl | ⟨r, y, rfl⟩
   ·simp at hl
   ·rw [List.concat_eq_append] at hl ⊢
    have ih := ih r (by simpa using hl)
    rw [onceL_snoc]
    split
    ·exact ih
    ·rename_i hy
     exact List.nodup_append.2 ⟨ih, by simp, fun a ha b hb e => hy (by rw [← List.mem_singleton.1 hb, ← e]; exact ha)⟩
 exact h l.length l rfl
theorem onceL_len (l : List (List Int)) : (onceL l).length ≤ l.length := (onceL_nd l).length_le_of_subset (fun x hx => (mem_onceL l x).1 hx)
/-- The keys of lists, all true. -/
def seenK (l : List (List Int)) : List (ByteArray × Value) := l.map fun x => (keyS x, .bool true)
theorem seenK_snoc (l : List (List Int)) (x : List Int) : seenK (l ++ [x]) = seenK l ++ [(keyS x, .bool true)] := by simp [seenK]
theorem seenK_nd {l : List (List Int)} (h : l.Nodup) (hs : ∀ x ∈ l, Small x) : ((seenK l).map (·.1)).Nodup := by
 rw [seenK, List.map_map]
 have h2 : l.Pairwise (fun a b => keyS a ≠ keyS b) := List.Pairwise.imp_of_mem (fun {a b} ha hb hab e => hab (keyS_inj (hs a ha) (hs b hb) e)) h
 exact List.pairwise_map.2 h2
theorem getA_seen {l : List (List Int)} (h : l.Nodup) (hs : ∀ x ∈ l, Small x) {x : List Int} (hx : x ∈ l) : getA (seenK l) (keyS x) = some (.bool true) := by
 obtain ⟨j, hj⟩ := List.getElem?_of_mem hx
 exact getA_at (seenK_nd h hs) (p := (keyS x, .bool true)) (j := j) (by rw [seenK, List.getElem?_map, hj]; rfl)
theorem getA_unseen {l : List (List Int)} (hs : ∀ x ∈ l, Small x) {x : List Int} (hx : x ∉ l) (h : Small x) : getA (seenK l) (keyS x) = none := by
 refine getA_no (fun p hp e => ?_)
 obtain ⟨y, hy, rfl⟩ := List.mem_map.1 hp
 exact hx (by rw [← keyS_inj (hs y hy) h e]; exact hy)
theorem accF_small {n : Nat} {row : List Arc} (h : VRow n row) : Small (accF row).1 := by
 intro x hx
 have := visB_iff.1 (accF_vis h) x hx
 exact ⟨by omega, by omega⟩
theorem accF_len {n : Nat} {row : List Arc} (h : VRow n row) : (accF row).1.length ≤ 1025 := by
 have h1 := asc_of_ascB (accF_rise h)
 have h2 := visB_iff.1 (accF_vis h)
 have h3 : ((accF row).1.map Int.toNat).Nodup := by
  refine List.pairwise_map.2 (List.Pairwise.imp_of_mem (fun {a b} ha hb hab e => ?_) h1)
  have := h2 a ha
  have := h2 b hb
  omega
 have h4 := h3.length_le_of_subset (l₂ := List.range' 1 1025) (fun x hx => by
  obtain ⟨y, hy, rfl⟩ := List.mem_map.1 hx
  have := h2 y hy
  rw [List.mem_range']
  exact ⟨y.toNat - 1, by omega, by omega⟩)
 rw [List.length_map, List.length_range'] at h4
 exact h4
theorem accN_snoc {l : Lts} {s : List Nat} {i v : Nat} (h : s[i]? = some v) : accN l (s.take (i + 1)) = if (accF (l.getD v [])).2 = true then accN l (s.take i) ++ [(accF (l.getD v [])).1] else accN l (s.take i) := by
 rw [take_snoc h, accN, accN, List.filterMap_append, List.filterMap_cons]
 split <;> simp_all
theorem onceA_small {l : Lts} (hv : VLts l) (s : List Nat) : ∀ x ∈ onceL (accN l s), Small x := by
 intro x hx
 obtain ⟨v, rfl⟩ := accN_of ((mem_onceL _ _).1 hx)
 exact accF_small (row_ok hv v)
theorem accN_le (l : Lts) (s : List Nat) : (accN l s).length ≤ s.length := List.length_filterMap_le _ _
/-- Whether one of the states is marked. -/
def anyD (bs : List Bool) (s : List Nat) : Bool := s.any fun v => bs[v]?.getD false
theorem anyD_eq {l : Lts} {bs : List Bool} {s : List Nat} (h : IsDiv (Esel l true) l.length bs) (hs : ∀ v ∈ s, v < l.length) : anyD bs s = divB l s := by
 rw [Bool.eq_iff_iff, divB_iff, anyD, List.any_eq_true]
 constructor
 ·rintro ⟨v, hv, h1⟩
  refine ⟨v, hv, (h.iff v (hs v hv)).1 ?_⟩
  cases hb : bs[v]? with
  | none => rw [hb] at h1; cases h1
  | some b => rw [hb] at h1; simp at h1; rw [h1]
 ·rintro ⟨v, hv, h1⟩
  refine ⟨v, hv, ?_⟩
  rw [(h.iff v (hs v hv)).2 h1]; rfl
theorem anyD_snoc {bs : List Bool} {s : List Nat} {i v : Nat} (h : s[i]? = some v) : anyD bs (s.take (i + 1)) = (anyD bs (s.take i) || bs[v]?.getD false) := any_next h
/-- What is owned as rows is a row of values that hold them. -/
theorem ownsC_ps {w : World} {eo e : TypeId} {v : Value} {us : List Value} {rows : List (List Int)} (h : (ownsC eo e 1 ints v us rows).P w) : ∃ ps : List PV, ps.map (·.1) = us ∧ ps.map (·.2) = rows ∧ ps.length = rows.length ∧ RowV w [] v rows.length 1 us ∧ PsAt w [] ps := by
 have hl := ownsC_len h
 refine ⟨us.zip rows, List.map_fst_zip (by omega), List.map_snd_zip (by omega), by rw [List.length_zip]; omega, rowV_of_owns h.1 (by simp), fun p hp => ?_⟩
 obtain ⟨i, hi⟩ := List.getElem?_of_mem hp
 rw [List.getElem?_zip_eq_some] at hi
 obtain ⟨r, hr, ho⟩ := ownsC_in h hi.1
 rw [hi.2] at hr
 cases hr
 exact rowV_of_owns ho (by simp)
def EntEnd (w : World) (l : Lts) (ta : Option Addr) (tn tc : Nat) (s : List Nat) (e : Ending) (w' : World) : Prop :=
 ∃ aa ac us, e = .returned (.agg #[.slice ta tn tc, .slice aa (minL (accN l s)).length ac, .bool (divB l s)]) ∧ Sep w w' [ownsC 22 3 1 ints (.slice aa (minL (accN l s)).length ac) us (minL (accN l s))]
set_option linter.unusedSimpArgs false in
set_option maxRecDepth 100000 in
set_option maxHeartbeats 8000000 in
theorem entry_any (B : Nat) (F G : List Nat) (w : World) (a : Option Addr) (cap : Nat) (l : Lts) (dv : Value) (bs : List Bool) (ta : Option Addr) (tn tc : Nat) (sv : Value) (s : List Nat) (hv : validB l = true) (h0 : LAt B w a cap l) (hd : RowV w F dv l.length 1 (bools bs)) (hdd : IsDiv (Esel l true) l.length bs) (hs : RowV w G sv s.length 1 (ints (natI s))) (hsl : ∀ v ∈ s, v < l.length) (hsn : s.length ≤ 16384) :
  Calls Tryz.prog 58 #[.agg #[.slice a l.length cap], dv, .slice ta tn tc, sv] w (EntEnd w l ta tn tc s) := by
 obtain ⟨da, dc, rfl⟩ := RowV.shape hd
 obtain ⟨sa, sc, rfl⟩ := RowV.shape hs
 have hV := vlts_of hv
 have HV := Lib.hid hV
 have HL0 := Lib.hid h0
 have HD := Lib.hid hd
 have HDD := Lib.hid hdd
 have HS := Lib.hid hs
 have HSL := Lib.hid hsl
 have hm := Tryz.underlying92
 have hmm := @run_makeMap Tryz.prog
 have l1 := hs.rd.lt
 have hfew := hV.few
 have i2 : (l.length : Int) ≤ 16384 := by omega
 clear h0 hd hdd hs hsl hv hV
 go_enter Tryz.func58, Tryz.ntmps58
 have hm0 : KM strV ((((w.alloc (.cells #[.slice a l.length cap] 25)).alloc (.cells #[.slice none 0 0, .slice none 0 0, .bool false] 69)).alloc (.cells #[.slice ta tn tc, .slice none 0 0, .bool false] 69)).alloc (.map #[] 0)) (w.heap.size + 1 + 1 + 1) (seenK []) := by
  have h9 := KM.fresh (ke := strV) (((w.alloc (.cells #[.slice a l.length cap] 25)).alloc (.cells #[.slice none 0 0, .slice none 0 0, .bool false] 69)).alloc (.cells #[.slice ta tn tc, .slice none 0 0, .bool false] 69))
  simpa [seenK] using h9
 have S0 := ((((((Sep.start w).box w.heap.size rfl 25 [.slice a l.length cap] #[.slice a l.length cap] rfl).box (w.heap.size + 1) (by simp) 69 [.slice none 0 0, .slice none 0 0, .bool false] #[.slice none 0 0, .slice none 0 0, .bool false] rfl).box (w.heap.size + 1 + 1) (by simp) 69 [.slice ta tn tc, .slice none 0 0, .bool false] #[.slice ta tn tc, .slice none 0 0, .bool false] rfl).add (mapC (w.heap.size + 1 + 1 + 1) (seenK [])) ((Frm.refl [] _).alloc (.map #[] 0)) hm0 (by simp [mapC]))).add (ownsC 22 3 1 ints (.slice none 0 0) [] []) (Frm.refl _ _) (ownsC_nil _ _ _ _ _) (by simp [ownsC, Value.ownBlock])
 have HS0 := Lib.hid S0
 clear S0 hm0
 go_wp2_with fail
 go_loopg [10, 21] s.length (fun q t10 t21 wr => ∃ (i : Nat) (a9 : Option Addr) (c9 : Nat) (us : List Value), q = s.length - i ∧ i ≤ s.length ∧ t21 = .int .i64 i ∧ t10 = .slice a9 (onceL (accN l (s.take i))).length c9 ∧ Sep w wr [ownsC 22 3 1 ints (.slice a9 (onceL (accN l (s.take i))).length c9) us (onceL (accN l (s.take i))), mapC (w.heap.size + 1 + 1 + 1) (seenK (onceL (accN l (s.take i)))), boxC (w.heap.size + 1 + 1) 69 [.slice ta tn tc, .slice none 0 0, .bool (anyD bs (s.take i))], boxC (w.heap.size + 1) 69 [.slice none 0 0, .slice none 0 0, .bool false], boxC w.heap.size 25 [.slice a l.length cap]])
 case atStart => exact ⟨0, none, 0, [], rfl, Nat.zero_le _, rfl, rfl, HS0.out⟩
 case round =>
  clear HS0
  obtain ⟨i, a9, c9, us, hq, hi, rfl, rfl, hsep⟩ := hrel
  have HQ := Lib.hid hq
  have i4 : (0 : Int) ≤ (i : Int) := by omega
  obtain ⟨R, hR⟩ : ∃ R, R = onceL (accN l (s.take i)) := ⟨_, rfl⟩
  rw [← hR] at hsep ⊢
  have hsm : ∀ x ∈ R, Small x := by rw [hR]; exact onceA_small HV.out _
  have hnd : R.Nodup := by rw [hR]; exact onceL_nd _
  have hRl : R.length ≤ i := by
   rw [hR]
   have h1 := onceL_len (accN l (s.take i))
   have h2 := accN_le l (s.take i)
   have h3 := List.length_take_le i s
   omega
  have HR := Lib.hid hR
  have S := Lib.hid hsep
  have k0 := (show RowAt wr w.heap.size 25 [.slice a l.length cap] from S.out.at_ 4 rfl).cell (i := 0) rfl
  clear hq hsep hR
  by_cases hlt : i < s.length
  ·have i5 : (i : Int) < (s.length : Int) := by omega
   obtain ⟨v, hv⟩ : ∃ v, s[i]? = some v := ⟨_, List.getElem?_eq_getElem hlt⟩
   have hvl := HSL.out v (List.mem_of_getElem? hv)
   obtain ⟨row, hrow⟩ : ∃ row, l[v]? = some row := ⟨_, List.getElem?_eq_getElem hvl⟩
   obtain ⟨be, hbe⟩ : ∃ b, bs[v]? = some b := ⟨_, List.getElem?_eq_getElem (by rw [HDD.out.len]; exact hvl)⟩
   have hvr : VRow l.length row := HV.out.row row (List.mem_of_getElem? hrow)
   have hgd : l.getD v [] = row := by rw [List.getD_eq_getElem?_getD, hrow]; rfl
   have i7 : (0 : Int) ≤ (v : Int) := by omega
   have i8 : (v : Int) < (l.length : Int) := by omega
   obtain ⟨_, a', c', e', _, _, _, hcell⟩ := HS.out
   obtain ⟨rfl, rfl⟩ : sa = a' ∧ sc = c' := by simpa using e'
   obtain ⟨b, o, rfl, _, _, hc⟩ := hcell i (.int .i64 (v : Int)) (ints_get (natI_get hv))
   have k1 := S.out.frm.cell hc (by simp)
   obtain ⟨_, a8, c8, e8, _, _, _, hcell2⟩ := HD.out
   obtain ⟨rfl, rfl⟩ : da = a8 ∧ dc = c8 := by simpa using e8
   obtain ⟨b2, o2, rfl, _, _, hc2⟩ := hcell2 v (.bool be) (by rw [bools, List.getElem?_map, hbe]; rfl)
   have k2 := S.out.frm.cell hc2 (by simp)
   obtain ⟨D, hD⟩ : ∃ D, D = anyD bs (s.take i) := ⟨_, rfl⟩
   have hD2 : anyD bs (s.take (i + 1)) = (D || be) := by rw [anyD_snoc hv, hbe, ← hD]; rfl
   rw [← hD] at S
   have hAN := accN_snoc (l := l) hv
   rw [hgd] at hAN
   obtain ⟨acc, hacc⟩ : ∃ acc, acc = (accF row).1 := ⟨_, rfl⟩
   obtain ⟨ok, hok⟩ : ∃ ok, ok = (accF row).2 := ⟨_, rfl⟩
   have hasm : Small acc := by rw [hacc]; exact accF_small hvr
   have hal : acc.length ≤ 1025 := by rw [hacc]; exact accF_len hvr
   have HACC : Hid (∀ W, Frm [] w W → Calls Tryz.prog 91 #[.agg #[.slice a l.length cap], .int .i64 (v : Int)] W fun e w' => ∃ a' cp, e = .returned (.tuple #[.slice a' acc.length cp, .bool ok]) ∧ OwnI W.heap.size w' a' cp acc ∧ Frm [] W w') := Lib.hid fun W hf => by
    rw [hacc, hok]
    exact facc_any B a cap l v row W (HL0.out.nil hf rfl) hrow (by have := hvr.few; omega)
   rw [← hacc, ← hok] at hAN
   have rx := (show RowAt wr (w.heap.size + 1 + 1) 69 [.slice ta tn tc, .slice none 0 0, .bool D] from S.out.at_ 2 rfl)
   have x2 := rx.cell (i := 2) rfl
   have z2 := rx.frozen 2
   have SD0 := S.out.putBox 2 rfl 2 (.bool (D || be))
   simp only [List.set_cons_zero, List.set_cons_succ] at SD0
   have HD2 := Lib.hid hD2
   have HAN := Lib.hid hAN
   have HSM := Lib.hid hsm
   have HND := Lib.hid hnd
   have HASM := Lib.hid hasm
   clear hcell hc e' hcell2 hc2 e8 hv hrow hbe hvr hgd hD hacc hok hD2 hAN hsm hnd hasm S rx
   cases D
   all_goals
    simp only [Bool.true_or, Bool.false_or] at SD0
    have SD := Lib.hid SD0
    clear SD0
    cases ok
    ·have HX : Hid (onceL (accN l (s.take (i + 1))) = R) := Lib.hid (by rw [HAN.out, if_neg (by simp), HR.out])
     go_wp2_with (first
      | (go_at_call 91; refine (HACC.out _ SD.out.frm).mono ?_; rintro e5 w5 ⟨a5, c5, rfl, own5, hf5⟩; have S5 := Lib.hid (SD.out.nil hf5); clear own5 hf5)
      | fail)
     go_roundg (s.length - (i + 1))
     case rel =>
      refine ⟨i + 1, a9, c9, us, rfl, by omega, by go_num, ?_, ?_⟩
      ·rw [HX.out]
      ·rw [HX.out, HD2.out]
       exact S5.out
     case measure => have := HQ.out; omega
    ·by_cases hmem : acc ∈ R
     ·have HX : Hid (onceL (accN l (s.take (i + 1))) = R) := Lib.hid (by rw [HAN.out, if_pos rfl, onceL_snoc, ← HR.out, if_pos hmem])
      have HG := Lib.hid (getA_seen HND.out HSM.out hmem)
      have HKN := Lib.hid (seenK_nd HND.out HSM.out)
      clear hmem
      go_wp2_with (first
       | (go_at_call 91; refine (HACC.out _ SD.out.frm).mono ?_; rintro e5 w5 ⟨a5, c5, rfl, own5, hf5⟩; have S5 := Lib.hid (SD.out.nil hf5); have O5 := Lib.hid (rowV_of_owns (F := []) own5 (by simp)); clear own5 hf5)
       | (go_at_call 48; refine (key_any w5 _ acc O5.out HASM.out (by omega)).mono ?_; rintro e6 w6 ⟨rfl, hf6⟩; have S6 := Lib.hid (S5.out.nil hf6); have SK := Lib.hid ((S6.out.at_ 1 rfl : KM strV w6 (w.heap.size + 1 + 1 + 1) (seenK R))); clear hf6)
       | (at_lookup; refine wpl_slookG rfl _ _ 92 false rfl Tryz.underlying9 Tryz.underlying92 (Tryz.zeroValue4 _) (w.heap.size + 1 + 1 + 1) (seenK R) rfl SK.out HKN.out (keyS acc) rfl ?_; rw [HG.out])
       | fail)
      go_roundg (s.length - (i + 1))
      case rel =>
       refine ⟨i + 1, a9, c9, us, rfl, by omega, by go_num, ?_, ?_⟩
       ·rw [HX.out]
       ·rw [HX.out, HD2.out]
        exact S6.out
      case measure => have := HQ.out; omega
     ·have HX : Hid (onceL (accN l (s.take (i + 1))) = R ++ [acc]) := Lib.hid (by rw [HAN.out, if_pos rfl, onceL_snoc, ← HR.out, if_neg hmem])
      have HG := Lib.hid (getA_unseen HSM.out hmem HASM.out)
      have HKN := Lib.hid (seenK_nd HND.out HSM.out)
      clear hmem
      go_wp2_with (first
       | (go_at_call 91; refine (HACC.out _ SD.out.frm).mono ?_; rintro e5 w5 ⟨a5, c5, rfl, own5, hf5⟩; have S5 := Lib.hid (SD.out.add (ownC 3 1 (.slice a5 acc.length c5) acc.length (ints acc)) hf5 (ownC_of own5) (ownC_new own5)); clear own5 hf5)
       | (go_at_call 48; refine (key_any w6 _ acc (rowV_of_owns (F := []) (S6.out.at_ 0 rfl) (by simp)) HASM.out (by omega)).mono ?_; rintro e7 w7 ⟨rfl, hf7⟩; have S7 := Lib.hid (S6.out.nil hf7); have SK7 := Lib.hid ((S7.out.at_ 2 rfl : KM strV w7 (w.heap.size + 1 + 1 + 1) (seenK R))); clear hf7)
       | (go_at_call 48; refine (key_any w5 _ acc (rowV_of_owns (F := []) (S5.out.at_ 0 rfl) (by simp)) HASM.out (by omega)).mono ?_; rintro e6 w6 ⟨rfl, hf6⟩; have S6 := Lib.hid (S5.out.nil hf6); have SK := Lib.hid ((S6.out.at_ 2 rfl : KM strV w6 (w.heap.size + 1 + 1 + 1) (seenK R))); clear hf6)
       | (at_lookup; refine wpl_slookG rfl _ _ 92 false rfl Tryz.underlying9 Tryz.underlying92 (Tryz.zeroValue4 _) (w.heap.size + 1 + 1 + 1) (seenK R) rfl SK.out HKN.out (keyS acc) rfl ?_; rw [HG.out])
       | (at_mapUpdate; refine wpl_sput rfl _ _ _ _ rfl Tryz.underlying9 Tryz.underlying92 (w.heap.size + 1 + 1 + 1) (seenK R) rfl SK7.out HKN.out (keyS acc) rfl (.bool true) rfl HG.out ?_; intro w8 hk8 hf8 hs8; have S8 := Lib.hid (S7.out.step 2 (mapC (w.heap.size + 1 + 1 + 1) (seenK (R ++ [acc]))) rfl hf8 (by simp [mapC]) (by rw [seenK_snoc]; exact hk8) (by simp [mapC])); clear hk8 hf8 hs8)
       | (at_builtin; refine app_row rfl (.tmp 51) (.tmp 53) 67 22 _ 1 24 rfl Tryz.underlying67 infoIs rfl (by decide) (by decide) 0 R.length (.slice a9 R.length c9) us rfl ((S8.out.nil ((Frm.refl [] w8).alloc (.cells #[.slice a5 acc.length c5] 22))).at_ 1 rfl).1 _ 1 [.slice a5 acc.length c5] [] rfl (rowV_cells (size := 1) (RowAt.made w8 22 [.slice a5 acc.length c5] #[.slice a5 acc.length c5] rfl) rfl (Nat.le_refl _) (by decide) (by simp)) (by simp [Value.oneCell']) (R.length + 1) rfl (by omega) (Nat.zero_le _) ?_; intro a11 c11 w11 own11 hf11 hb11; have S11 := Lib.hid ((S8.out.nil ((Frm.refl [] w8).alloc (.cells #[.slice a5 acc.length c5] 22))).snoc rfl rfl (by decide) rfl own11 rfl rfl hf11 (fun k hk => (hb11 k hk).imp id (fun e => Nat.le_of_eq e.symm))); clear own11 hf11 hb11)
       | fail)
      go_roundg (s.length - (i + 1))
      case rel =>
       have e9 : (R ++ [acc]).length = R.length + 1 := by simp
       refine ⟨i + 1, a11, c11, us ++ [.slice a5 acc.length c5], rfl, by omega, by go_num, ?_, ?_⟩
       ·rw [HX.out, e9]
       ·rw [HX.out, HD2.out, e9]
        exact S11.out
      case measure => have := HQ.out; omega
  ·have i5 : ¬ (i : Int) < (s.length : Int) := by omega
   have htk : s.take i = s := List.take_of_length_le (by omega)
   have hr9 := HR.out
   rw [htk] at hr9 S
   rw [anyD_eq HDD.out HSL.out] at S
   have hmin : minL R = minL (accN l s) := minL_congr (fun x => by rw [hr9, mem_onceL])
   obtain ⟨ps, hpu, hpr, hpl, hprow, hpat⟩ := ownsC_ps (S.out.at_ 0 rfl)
   rw [← hpu, ← hpl] at hprow
   have hmc := minimal_any [] wr _ ps hprow hpat (by omega) (fun p hp => by
    have h1 : p.2 ∈ R := by rw [← hpr]; exact List.mem_map.2 ⟨p, hp, rfl⟩
    rw [hr9] at h1
    obtain ⟨v, e9⟩ := accN_of ((mem_onceL _ _).1 h1)
    have h2 := accF_len (row_ok HV.out v)
    rw [e9]
    omega)
   unfold MinEnd at hmc
   rw [hpr, hpl, hmin] at hmc
   have HMC := Lib.hid hmc
   clear hmc hprow hpat hpu hpr hpl hmin hr9 htk
   obtain ⟨M, hM⟩ : ∃ M, M = minL (accN l s) := ⟨_, rfl⟩
   obtain ⟨Dv, hDv⟩ : ∃ D, D = divB l s := ⟨_, rfl⟩
   rw [← hM] at HMC
   rw [← hDv] at S
   have HM := Lib.hid hM
   have HDv := Lib.hid hDv
   clear hM hDv
   go_wp2_with (first
    | (go_at_call 76; refine HMC.out.mono ?_; rintro e5 w5 ⟨aa, ac, us5, rfl, s5⟩; have S5 := Lib.hid (S.out.append s5); have rx := (show RowAt w5 (w.heap.size + 1 + 1) 69 [.slice ta tn tc, .slice none 0 0, .bool Dv] from S5.out.at_ 3 rfl); have x0 := rx.cell (i := 0) rfl; have x1 := rx.cell (i := 1) rfl; have x2 := rx.cell (i := 2) rfl; have z1 := rx.frozen 1; have rr := (show RowAt w5 (w.heap.size + 1) 69 [.slice none 0 0, .slice none 0 0, .bool false] from S5.out.at_ 4 rfl); have y0 := rr.cell (i := 0) rfl; have y1 := rr.cell (i := 1) rfl; have y2 := rr.cell (i := 2) rfl; have v0 := rr.frozen 0; have v1 := rr.frozen 1; have v2 := rr.frozen 2; clear rx rr s5)
    | fail)
   have SP := ((((S5.out.putBox 3 rfl 1 (.slice aa M.length ac)).putBox 4 rfl 0 (.slice ta tn tc)).putBox 4 rfl 1 (.slice aa M.length ac)).putBox 4 rfl 2 (.bool Dv))
   simp only [List.set_cons_zero, List.set_cons_succ, List.cons_append, List.nil_append] at SP
   generalize World.setCell (World.setCell (World.setCell (World.setCell _ _ _) _ _) _ _) _ _ = W9 at *
   have rr : RowAt W9 (w.heap.size + 1) 69 [.slice ta tn tc, .slice aa M.length ac, .bool Dv] := SP.at_ 4 rfl
   have e0 := rr.cell (i := 0) rfl
   have e1 := rr.cell (i := 1) rfl
   have e2 := rr.cell (i := 2) rfl
   refine bodyPost_ret (v := .agg #[.slice ta tn tc, .slice aa M.length ac, .bool Dv]) (by simp [results, Tryz.results58, go_sem, e0, e1, e2]) rfl ?_
   unfold EntEnd
   rw [← HM.out, ← HDv.out]
   exact ⟨aa, ac, us5, rfl, SP.take 1⟩
end Go.Proofs.YtikpcipkkhmcfaaGreat.Beh

/- The state of Of in memory: entries, sets, the Walker. -/
namespace Go.Proofs.YtikpcipkkhmcfaaGreat.Beh
open Go.Shelf Go.RowKit Go.Lib Go.Sort Go.Maps Go.Proofs.YtikpcipkkhmcfaaGreat Go.Proofs.YtikpcipkkhmcfaaGreat.Ind

theorem setsAt_of {wA wB : World} {F : List Nat} {eo e : TypeId} {v : Value} {us : List Value} {rows : List (List Int)} {cs : List Chunk} (h : Sep wA wB (ownsC eo e 1 ints v us rows :: cs)) (hF : ∀ k ∈ F, k < wA.heap.size) : SetsAt wB F v rows := by
 have hP := h.at_ 0 rfl
 have hge : ∀ k ∈ (ownsC eo e 1 ints v us rows).fp, wA.heap.size ≤ k := fun k hk => h.le 0 rfl hk
 have hl := ownsC_len hP
 refine ⟨us.zip rows, List.map_snd_zip (by omega), ?_, fun p hp => ?_⟩
 ·rw [List.map_fst_zip (by omega)]
  refine rowV_of_owns hP.1 (fun k hk e => ?_)
  have h1 := hge k (List.mem_append_left _ (by simp [e]))
  have h2 := hF k hk
  omega
 ·obtain ⟨i, hi⟩ := List.getElem?_of_mem hp
  rw [List.getElem?_zip_eq_some] at hi
  obtain ⟨r, hr, ho⟩ := ownsC_in hP hi.1
  rw [hi.2] at hr
  cases hr
  refine rowV_of_owns ho (fun k hk e => ?_)
  have h1 := hge k (List.mem_append_right _ (List.mem_flatMap.2 ⟨p.1, List.mem_of_getElem? hi.1, by simp [e]⟩))
  have h2 := hF k hk
  omega
theorem entAt_of {wA wB : World} {F : List Nat} {eo e : TypeId} {tv v : Value} {t : List Int} {us : List Value} {rows : List (List Int)} {cs : List Chunk} {d : Bool} (ht : RowV wB F tv t.length 1 (ints t)) (h : Sep wA wB (ownsC eo e 1 ints v us rows :: cs)) (hF : ∀ k ∈ F, k < wA.heap.size) : EntAt wB F ((tv, v), (t, rows, d)) := ⟨ht, setsAt_of h hF⟩
theorem EntAt.less {w : World} {F F' : List Nat} {p : EV} (h : EntAt w F p) (hF : ∀ k ∈ F', k ∈ F) : EntAt w F' p := h.step (Frm.refl [] w) (by simp) (fun k hk => .inl (hF k hk))
/-- The blocks that may turn. -/
def blkO (F : List Nat) (wb gs : Nat) (v8 v9 : Value) : List Nat := F ++ wb :: gs :: (v8.ownBlock.toList ++ v9.ownBlock.toList)
theorem mem_blkO {F : List Nat} {wb gs : Nat} {v8 v9 : Value} {k : Nat} : k ∈ blkO F wb gs v8 v9 ↔ k ∈ F ∨ k = wb ∨ k = gs ∨ v8.ownBlock = some k ∨ v9.ownBlock = some k := by
 simp [blkO]
structure OfI (B : Nat) (w0 : World) (F : List Nat) (wb gs : Nat) (a : Option Addr) (cap n m : Nat) (sl : List (List Nat)) (el : List En) (v8 v9 : Value) (wr : World) : Prop where
 frm : Frm [wb, gs] w0 wr
 ents : ∃ ps : List EV, ps.map (·.2) = el ∧ wr.ownsRow w0.heap.size 69 3 v9 el.length (ps.flatMap enE) ∧ ∀ p ∈ ps, EntAt wr (blkO F wb gs v8 v9) p
 sets : ∃ qs : List PV, qs.map (·.2) = sl.map natI ∧ wr.ownsRow w0.heap.size 22 1 v8 sl.length (qs.map (·.1)) ∧ PsAt wr (blkO F wb gs v8 v9) qs
 wk : ∃ r seen, r ≤ m ∧ WkAt B wr wb gs a cap n r seen
 low : ∀ k ∈ wb :: gs :: F, k < w0.heap.size
section
variable {B : Nat} {w0 : World} {F : List Nat} {wb gs : Nat} {a : Option Addr} {cap n m : Nat} {sl : List (List Nat)} {el : List En} {v8 v9 : Value} {wr w' : World}
theorem OfI.blt (h : OfI B w0 F wb gs a cap n m sl el v8 v9 wr) : ∀ k ∈ blkO F wb gs v8 v9, k < wr.heap.size := by
 intro k hk
 have hs := h.frm.size
 have h1 := h.low
 obtain ⟨_, _, h8, _⟩ := h.sets
 obtain ⟨_, _, h9, _⟩ := h.ents
 rcases mem_blkO.1 hk with hk | rfl | rfl | hk | hk
 ·have := h1 k (by simp [hk]); omega
 ·have := h1 k (by simp); omega
 ·have := h1 k (by simp); omega
 ·exact (h8.lt k hk).2
 ·exact (h9.lt k hk).2
theorem OfI.keep (h : OfI B w0 F wb gs a cap n m sl el v8 v9 wr) (hf : Frm [] wr w') : OfI B w0 F wb gs a cap n m sl el v8 v9 w' := by
 obtain ⟨ps, e1, e2, e3⟩ := h.ents
 obtain ⟨qs, s1, s2, s3⟩ := h.sets
 obtain ⟨r, seen, hr, hw⟩ := h.wk
 exact ⟨h.frm.trans hf (by simp), ⟨ps, e1, ownsB_frm e2 hf (by simp), fun p hp => (e3 p hp).nil hf⟩, ⟨qs, s1, ownsB_frm s2 hf (by simp), s3.nil hf⟩, ⟨r, seen, hr, hw.nil hf⟩, h.low⟩
theorem OfI.ne8 (h : OfI B w0 F wb gs a cap n m sl el v8 v9 wr) {k : Nat} (hk : v8.ownBlock = some k) : k ≠ wb ∧ k ≠ gs ∧ v9.ownBlock ≠ some k := by
 obtain ⟨qs, s1, s2, s3⟩ := h.sets
 obtain ⟨ps, e1, e2, e3⟩ := h.ents
 have h1 := (s2.lt k hk).1
 have h2 := h.low wb (by simp)
 have h3 := h.low gs (by simp)
 exact ⟨by omega, by omega, fun e => owns_ne s2 e2 (by decide) hk e rfl⟩
theorem OfI.ne9 (h : OfI B w0 F wb gs a cap n m sl el v8 v9 wr) {k : Nat} (hk : v9.ownBlock = some k) : k ≠ wb ∧ k ≠ gs ∧ v8.ownBlock ≠ some k := by
 obtain ⟨qs, s1, s2, s3⟩ := h.sets
 obtain ⟨ps, e1, e2, e3⟩ := h.ents
 have h1 := (e2.lt k hk).1
 have h2 := h.low wb (by simp)
 have h3 := h.low gs (by simp)
 exact ⟨by omega, by omega, fun e => owns_ne e2 s2 (by decide) hk e rfl⟩
theorem OfI.walk (h : OfI B w0 F wb gs a cap n m sl el v8 v9 wr) {m' r : Nat} {seen : List Int} (hf : Frm [wb, gs] wr w') (hr : r ≤ m') (hw : WkAt B w' wb gs a cap n r seen) : OfI B w0 F wb gs a cap n m' sl el v8 v9 w' := by
 obtain ⟨ps, e1, e2, e3⟩ := h.ents
 obtain ⟨qs, s1, s2, s3⟩ := h.sets
 have hb : ∀ k ∈ [wb, gs], k ∈ blkO F wb gs v8 v9 ∨ wr.heap.size ≤ k := fun k hk => .inl (mem_blkO.2 (by simp at hk; rcases hk with h | h <;> simp [h]))
 refine ⟨h.frm.trans hf (fun k hk => .inl hk), ⟨ps, e1, ownsB_frm e2 hf (fun k hk hm => ?_), fun p hp => (e3 p hp).step hf hb (fun k hk => .inl hk)⟩, ⟨qs, s1, ownsB_frm s2 hf (fun k hk hm => ?_), s3.step hf hb (fun k hk => .inl hk)⟩, ⟨r, seen, hr, hw⟩, h.low⟩
 ·obtain ⟨h1, h2, _⟩ := h.ne9 hk
  simp at hm; omega
 ·obtain ⟨h1, h2, _⟩ := h.ne8 hk
  simp at hm; omega
/-- One more set. -/
theorem OfI.set (h : OfI B w0 F wb gs a cap n m sl el v8 v9 wr) {N : Nat} {u v8' : Value} {x : List Nat} (qs : List PV) (s1 : qs.map (·.2) = sl.map natI) (s3 : PsAt wr (blkO F wb gs v8 v9) qs) (hf : Frm v8.ownBlock.toList wr w') (hN : N = sl.length + 1) (hown : w'.ownsRow w0.heap.size 22 1 v8' N (qs.map (·.1) ++ [u])) (hb : ∀ k, v8'.ownBlock = some k → v8.ownBlock = some k ∨ k = wr.heap.size) (hu : RowV wr (blkO F wb gs v8 v9) u x.length 1 (ints (natI x))) : OfI B w0 F wb gs a cap n m (sl ++ [x]) el v8' v9 w' := by
 obtain ⟨ps, e1, e2, e3⟩ := h.ents
 obtain ⟨_, _, s2, _⟩ := h.sets
 obtain ⟨r, seen, hr, hw⟩ := h.wk
 subst hN
 have hfp : ∀ k ∈ v8.ownBlock.toList, k ∈ blkO F wb gs v8 v9 ∨ wr.heap.size ≤ k := fun k hk => .inl (mem_blkO.2 (by simp at hk; simp [hk]))
 have hF' : ∀ k ∈ blkO F wb gs v8' v9, k ∈ blkO F wb gs v8 v9 ∨ wr.heap.size ≤ k := fun k hk => by
  rcases mem_blkO.1 hk with h1 | h1 | h1 | h1 | h1
  ·exact .inl (mem_blkO.2 (.inl h1))
  ·exact .inl (mem_blkO.2 (.inr (.inl h1)))
  ·exact .inl (mem_blkO.2 (.inr (.inr (.inl h1))))
  ·rcases hb k h1 with h2 | h2
   ·exact .inl (mem_blkO.2 (.inr (.inr (.inr (.inl h2)))))
   ·exact .inr (Nat.le_of_eq h2.symm)
  ·exact .inl (mem_blkO.2 (.inr (.inr (.inr (.inr h1)))))
 refine ⟨h.frm.trans hf (fun k hk => .inr (s2.lt k (by simpa using hk)).1), ⟨ps, e1, ownsB_frm e2 hf (fun k hk hm => (h.ne9 hk).2.2 (by simpa using hm)), fun p hp => (e3 p hp).step hf hfp hF'⟩, ⟨qs ++ [(u, natI x)], by simp [s1], by simpa using hown, fun q hq => ?_⟩, ⟨r, seen, hr, hw.frm hf (fun hm => (h.ne8 (by simpa using hm)).1 rfl) (fun hm => (h.ne8 (by simpa using hm)).2.1 rfl)⟩, h.low⟩
 rcases List.mem_append.1 hq with hq | hq
 ·exact (s3 q hq).step hf hfp hF'
 ·rw [List.mem_singleton.1 hq]
  have := hu.step hf hfp hF'
  rw [natI_len]
  exact this
/-- One more entry. -/
theorem OfI.ent (h : OfI B w0 F wb gs a cap n m sl el v8 v9 wr) {N : Nat} {v9' : Value} {p : EV} (ps : List EV) (e1 : ps.map (·.2) = el) (e3 : ∀ p ∈ ps, EntAt wr (blkO F wb gs v8 v9) p) (hf : Frm v9.ownBlock.toList wr w') (hN : N = el.length + 1) (hown : w'.ownsRow w0.heap.size 69 3 v9' N (ps.flatMap enE ++ enE p)) (hb : ∀ k, v9'.ownBlock = some k → v9.ownBlock = some k ∨ k = wr.heap.size) (hp : EntAt wr (blkO F wb gs v8 v9) p) : OfI B w0 F wb gs a cap n m sl (el ++ [p.2]) v8 v9' w' := by
 obtain ⟨_, _, e2, _⟩ := h.ents
 obtain ⟨qs, s1, s2, s3⟩ := h.sets
 obtain ⟨r, seen, hr, hw⟩ := h.wk
 subst hN
 have hfp : ∀ k ∈ v9.ownBlock.toList, k ∈ blkO F wb gs v8 v9 ∨ wr.heap.size ≤ k := fun k hk => .inl (mem_blkO.2 (by simp at hk; simp [hk]))
 have hF' : ∀ k ∈ blkO F wb gs v8 v9', k ∈ blkO F wb gs v8 v9 ∨ wr.heap.size ≤ k := fun k hk => by
  rcases mem_blkO.1 hk with h1 | h1 | h1 | h1 | h1
  ·exact .inl (mem_blkO.2 (.inl h1))
  ·exact .inl (mem_blkO.2 (.inr (.inl h1)))
  ·exact .inl (mem_blkO.2 (.inr (.inr (.inl h1))))
  ·exact .inl (mem_blkO.2 (.inr (.inr (.inr (.inl h1)))))
  ·rcases hb k h1 with h2 | h2
   ·exact .inl (mem_blkO.2 (.inr (.inr (.inr (.inr h2)))))
   ·exact .inr (Nat.le_of_eq h2.symm)
 refine ⟨h.frm.trans hf (fun k hk => .inr (e2.lt k (by simpa using hk)).1), ⟨ps ++ [p], by simp [e1], by simpa using hown, fun q hq => ?_⟩, ⟨qs, s1, ownsB_frm s2 hf (fun k hk hm => (h.ne8 hk).2.2 (by simpa using hm)), s3.step hf hfp hF'⟩, ⟨r, seen, hr, hw.frm hf (fun hm => (h.ne9 (by simpa using hm)).1 rfl) (fun hm => (h.ne9 (by simpa using hm)).2.1 rfl)⟩, h.low⟩
 rcases List.mem_append.1 hq with hq | hq
 ·exact (e3 q hq).step hf hfp hF'
 ·rw [List.mem_singleton.1 hq]
  exact hp.step hf hfp hF'
/-- The entries, when all is done. -/
theorem _root_.Go.Proofs.YtikpcipkkhmcfaaGreat.RowV.rdF {w w' : World} {F fp : List Nat} {a : Option Addr} {n c size : Nat} {xs : List Value} (h : RowV w F (.slice a n c) n size xs) (hf : Frm fp w w') (hn : ∀ k ∈ fp, k ∈ F) : Rd w.heap.size w' a n c size xs := by
 obtain ⟨h1, a', c', e, h2, h3, _, h4⟩ := h
 cases e
 exact ⟨h1, h2, h3, fun i u hu => by
  obtain ⟨b, o, e, hb, hl, hc⟩ := h4 i u hu
  exact ⟨b, o, e, hl, hf.cell hc (fun hm => hb (hn _ hm))⟩⟩
theorem OfI.beh (h : OfI B w0 F wb gs a cap n m sl el v8 v9 wr) : BehAt wr F v9 el := by
 obtain ⟨ps, e1, e2, e3⟩ := h.ents
 refine ⟨ps, e1, rowV_of_owns e2 (fun k hk e => ?_), fun p hp => (e3 p hp).less (fun k hk => mem_blkO.2 (.inl hk))⟩
 have h1 := (e2.lt k e).1
 have h2 := h.low k (by simp [hk])
 omega
/-- Set i. -/
theorem OfI.set_at (h : OfI B w0 F wb gs a cap n m sl el v8 v9 wr) {i : Nat} {x : List Nat} (hx : sl[i]? = some x) : ∃ g c xa xc, v8 = .slice (some ⟨g, 0, none⟩) sl.length c ∧ sl.length ≤ c ∧ wr.cell? ⟨g, i, none⟩ = some (.slice xa x.length xc) ∧ RowV wr (blkO F wb gs v8 v9) (.slice xa x.length xc) x.length 1 (ints (natI x)) := by
 obtain ⟨qs, s1, s2, s3⟩ := h.sets
 obtain ⟨q, hq, hqx⟩ : ∃ q, qs[i]? = some q ∧ q.2 = natI x := by
  have := congrArg (fun l => l[i]?) s1
  simp only [List.getElem?_map, hx, Option.map_some] at this
  cases hq : qs[i]? with
  | none => rw [hq] at this; cases this
  | some q => rw [hq] at this; exact ⟨q, rfl, by simpa using this⟩
 have hl : qs.length = sl.length := by have := congrArg List.length s1; simpa using this
 have hpos : 0 < sl.length := by have := (List.getElem?_eq_some_iff.1 hx).1; omega
 have hr := s3 q (List.mem_of_getElem? hq)
 rw [hqx, natI_len] at hr
 obtain ⟨xa, xc, e⟩ := hr.shape
 obtain ⟨g, c, e', _, hc, _, hrow⟩ := ownsB_some s2 hpos
 rw [e] at hr
 exact ⟨g, c, xa, xc, e', hc, (hrow.cell (i := i) (by rw [List.getElem?_map, hq]; rfl)).trans (congrArg some e), hr⟩
/-- Entry i: its trace. -/
theorem OfI.ent_at (h : OfI B w0 F wb gs a cap n m sl el v8 v9 wr) {i : Nat} {x : En} (hx : el[i]? = some x) : ∃ g c ta tc, v9 = .slice (some ⟨g, 0, none⟩) el.length c ∧ el.length ≤ c ∧ wr.cell? ⟨g, i * 3, none⟩ = some (.slice ta x.1.length tc) ∧ RowV wr (blkO F wb gs v8 v9) (.slice ta x.1.length tc) x.1.length 1 (ints x.1) := by
 obtain ⟨ps, s1, s2, s3⟩ := h.ents
 obtain ⟨q, hq, hqx⟩ : ∃ q, ps[i]? = some q ∧ q.2 = x := by
  have := congrArg (fun l => l[i]?) s1
  simp only [List.getElem?_map, hx] at this
  cases hq : ps[i]? with
  | none => rw [hq] at this; cases this
  | some q => rw [hq] at this; exact ⟨q, rfl, by simpa using this⟩
 have hpos : 0 < el.length := by have := (List.getElem?_eq_some_iff.1 hx).1; omega
 have hr := (s3 q (List.mem_of_getElem? hq)).1
 rw [hqx] at hr
 obtain ⟨xa, xc, e⟩ := hr.shape
 obtain ⟨g, c, e', _, hc, _, hrow⟩ := ownsB_some s2 hpos
 rw [e] at hr
 have g0 := flat3_get hq 0 (by decide)
 rw [Nat.add_zero] at g0
 exact ⟨g, c, xa, xc, e', hc, (hrow.cell (i := i * 3) (by rw [g0]; rfl)).trans (congrArg some e), hr⟩
end
end Go.Proofs.YtikpcipkkhmcfaaGreat.Beh
