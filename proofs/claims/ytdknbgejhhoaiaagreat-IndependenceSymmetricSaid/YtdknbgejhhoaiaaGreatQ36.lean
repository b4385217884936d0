/- Texts U8, U9. -/
import Derived.Test.YtdknbgejhhoaiaaGreatQ35
import Derived.Deep.RegionHeld3
/- Contract of strong.next. -/
namespace Go.Proofs.YtdknbgejhhoaiaaGreat.Ind
open Go.Shelf Go.RowKit Go.Lib Go.Sort Go.Maps Go.Proofs.YtdknbgejhhoaiaaGreat.Beh

/-- What is asked of a system with n states. -/
structure LOk (l : List (List Ar)) (n : Nat) : Prop where
  len : l.length = n
  ok : ∀ row ∈ l, ∀ a ∈ row, 0 ≤ a.1 ∧ a.1 ≤ 1025 ∧ 0 ≤ a.2 ∧ a.2 < n
  few : ∀ row ∈ l, row.length ≤ 40000
theorem small_key {cls : List Int} {row : List Ar} {c : Int} (hc : 0 ≤ c ∧ c < 100000) (hcs : ∀ c ∈ cls, 0 ≤ c ∧ c < 100000) (ho : ∀ a ∈ row, 0 ≤ a.1 ∧ a.1 ≤ 1025 ∧ 0 ≤ a.2 ∧ a.2 < cls.length) : SmallK (c, sigB cls row) := by
  intro x hx
  rcases List.mem_cons.1 hx with rfl | hx
  · exact ⟨hc.1, by omega⟩
  · obtain ⟨m, hm, hx⟩ := List.mem_flatMap.1 hx
    have hm2 := (mem_setG sto_Ar).1 hm
    obtain ⟨a, ha, rfl⟩ := List.mem_map.1 hm2
    obtain ⟨h1, h2, h3, h4⟩ := ho a ha
    obtain ⟨v, hv⟩ : ∃ v, cls[a.2.toNat]? = some v := ⟨_, List.getElem?_eq_getElem (by omega)⟩
    have hv2 := hcs v (List.mem_of_getElem? hv)
    simp only [hv, Option.getD_some, List.mem_cons, List.not_mem_nil, or_false] at hx
    rcases hx with rfl | rfl
    · omega
    · omega
theorem sigB_len (cls : List Int) (row : List Ar) : (sigB cls row).length ≤ row.length := by
  have h : (setG ltAr (mkL cls row)).length ≤ (mkL cls row).length := setG_le ltAr _
  rw [mkL_len] at h
  exact h
theorem set_mid' {xs : List Int} {k m : Nat} {v : Int} (h : xs.length = k) (hm : 0 < m) : (xs ++ List.replicate m 0).set k v = (xs ++ [v]) ++ List.replicate (m - 1) 0 := by
  subst h
  obtain ⟨n, rfl⟩ : ∃ n, m = n + 1 := ⟨m - 1, by omega⟩
  rw [List.set_append_right _ _ (Nat.le_refl _), Nat.sub_self, List.replicate_succ, List.set_cons_zero, List.append_assoc]
  rfl
def NextEnd (w : World) (l : List (List Ar)) (cls : List Int) (e : Ending) (w' : World) : Prop := ∃ v, e = .returned v ∧ Sep w w' [intsC v cls.length (nextB l cls)]
theorem infoMapI : Tryz.prog.underlying 128 = some (.map (Tryz.prog.mapKeyOf 128) (Tryz.prog.mapElemOf 128)) := by kernel_rfl

theorem str_len {w : World} {b : Nat} {kv : List (ByteArray × Value)} (h : KM strV w b kv) (n : Nat) (hn : kv.length = n) : (Builtin.len_ #[128] 3 #[.map (some b)]).run Tryz.prog w = .ok (.int .i64 (n : Int)) w := by
  obtain ⟨es, clock, h1, h2, _⟩ := h
  have hsz : es.size = n := by
    have := congrArg List.length h2
    rw [List.length_map, List.length_map, Array.length_toList] at this
    omega
  have hrun := run_len_map (P := Tryz.prog) (w := w) 128 3 b es clock infoMapI h1
  rw [hsz] at hrun
  exact hrun

set_option linter.unusedSimpArgs false in
set_option maxRecDepth 100000 in
set_option maxHeartbeats 8000000 in
theorem snext_any (w : World) (lv : Value) (l : List (List Ar)) (cv : Value) (cls : List Int) (h : LtsAt w [] lv l) (hl : LOk l cls.length) (hc : RowV w [] cv cls.length 1 (ints cls)) (hcs : ∀ c ∈ cls, 0 ≤ c ∧ c < 100000) (hn : cls.length ≤ 40000) :
    Calls Tryz.prog 66 #[.agg #[lv], cv] w (NextEnd w l cls) := by
  obtain ⟨la, lc, rfl, hlf⟩ := ltsShape h
  obtain ⟨ca, cc, rfl⟩ := RowV.shape hc
  have hm := infoMapI
  have hmm := @run_makeMap Tryz.prog
  have hll := hl.len
  rw [hll] at hlf
  have hlc : (cls.length : Int) ≤ (lc : Int) := by
    obtain ⟨_, ⟨_, a', c', e, h2, _⟩, _⟩ := h
    cases e
    omega
  have hcc : (cls.length : Int) ≤ (cc : Int) := by
    obtain ⟨_, a', c', e, h2, _⟩ := hc
    cases e
    omega
  have i1 : (cls.length : Int) ≤ 40000 := by omega
  have H := Lib.hid h
  have HC := Lib.hid hc
  have HL := Lib.hid hl
  have HCS := Lib.hid hcs
  rw [hll]
  have HLL := Lib.hid hll
  clear h hl hc hcs hll
  go_enter Tryz.func66, Tryz.ntmps66
  go_wp2_with (first | (at_make; refine wpl_make_i _ rfl (.tmp 13) rfl _ cls.length rfl rfl (by omega) ?_) | (at_make; fail))
  intro w2 own2 hf2
  obtain ⟨W, hW⟩ : ∃ W, W = w.alloc (.cells #[.slice la cls.length lc] 25) := ⟨_, rfl⟩
  have s1 : Sep w (W.alloc (.map #[] 0)) [mapC (w.heap.size + 1) (kvK []), boxC w.heap.size 25 [.slice la cls.length lc]] := by
    have hs : W.heap.size = w.heap.size + 1 := by rw [hW]; simp
    have h1 := (Sep.start w).add (boxC w.heap.size 25 [.slice la cls.length lc]) ((Frm.refl [] w).alloc _) (RowAt.made w 25 _ #[.slice la cls.length lc] rfl) (by simp [boxC])
    rw [← hW] at h1
    exact h1.add (mapC (w.heap.size + 1) (kvK [])) ((Frm.refl [] W).alloc _) (by
      have := KM.fresh (ke := strV) W
      rw [hs] at this
      exact this) (by simp [mapC, hs])
  rw [hW] at s1
  obtain ⟨gt, hgt⟩ : ∃ g, g = w.heap.size + 1 + 1 := ⟨_, rfl⟩
  rw [← hgt] at own2 ⊢
  have S2 := Lib.hid (s1.add (intsC (.slice (some ⟨gt, 0, none⟩) cls.length cls.length) cls.length ((numL []).2 ++ List.replicate (cls.length - 0) 0)) hf2 (ownC_of own2) (fun k hk => by
    have := (own2.lt k (by simpa [ownC] using hk)).1
    simp
    omega))
  clear own2 hf2 s1 hW hgt
  go_wp2_with fail
  go_loopg [17] cls.length (fun q t17 wr => ∃ (k : Nat), q = cls.length - k ∧ k ≤ cls.length ∧ t17 = .int .i64 k ∧ Sep w wr [intsC (.slice (some ⟨gt, 0, none⟩) cls.length cls.length) cls.length ((numL ((keysS l cls).take k)).2 ++ List.replicate (cls.length - k) 0), mapC (w.heap.size + 1) (kvK (numL ((keysS l cls).take k)).1), boxC w.heap.size 25 [.slice la cls.length lc]])
  case atStart => exact ⟨0, rfl, Nat.zero_le _, rfl, S2.out⟩
  case round =>
    clear S2
    obtain ⟨k, hq, hk, rfl, hs⟩ := hrel
    have HQ := Lib.hid hq
    have S := Lib.hid hs
    have i4 : (0 : Int) ≤ (k : Int) := by omega
    clear hq hs
    by_cases hlt : k < cls.length
    · have i5 : (k : Int) < (cls.length : Int) := by omega
      obtain ⟨c, hck⟩ : ∃ c, cls[k]? = some c := ⟨_, List.getElem?_eq_getElem hlt⟩
      obtain ⟨row, hrow⟩ : ∃ row, l[k]? = some row := ⟨_, List.getElem?_eq_getElem (by rw [HLL.out]; exact hlt)⟩
      have hrm := List.mem_of_getElem? hrow
      obtain ⟨lb, lo, ra, rc, rfl, hlb, hlcell, hrv⟩ := ltsAt H.out hrow
      obtain ⟨_, a9, c9, e9, _, _, _, hcell2⟩ := HC.out
      obtain ⟨rfl, rfl⟩ : ca = a9 ∧ cc = c9 := by simpa using e9
      obtain ⟨cb, co, rfl, _, hcb, hc2⟩ := hcell2 k (.int .i64 c) (by simp [ints, hck])
      have k0 := (show RowAt wr w.heap.size 25 [.slice (some ⟨lb, lo, none⟩) cls.length lc] from S.out.at_ 2 rfl).cell (i := 0) rfl
      have k1 := S.out.frm.cell hlcell (by simp)
      have k2 := S.out.frm.cell hc2 (by simp)
      have lb0 : w.heap.size < wr.heap.size := S.out.lt 2 rfl (by simp [boxC])
      have KEEP : Hid (∀ w', Frm [] wr w' → w'.cell? ⟨w.heap.size, 0, none⟩ = some (.slice (some ⟨lb, lo, none⟩) cls.length lc) ∧ w'.cell? ⟨lb, lo + k, none⟩ = some (.slice ra row.length rc) ∧ w'.cell? ⟨cb, co + k, none⟩ = some (.int .i64 c)) := Lib.hid fun w' hf => ⟨hf.cell k0 (by simp), hf.cell k1 (by simp), hf.cell k2 (by simp)⟩
      have hcin := HCS.out c (List.mem_of_getElem? hck)
      have hsk : SmallK (c, sigB cls row) := small_key hcin HCS.out (fun a ha => HL.out.ok row hrm a ha)
      have HSG : Hid (∀ W, Frm [] wr W → Calls Tryz.prog 94 #[.slice ra row.length rc, .slice (some ⟨cb, co, none⟩) cls.length cc] W (SigEnd W cls row)) := Lib.hid fun W hf => signature_any W _ _ row cls (hrv.nil (S.out.frm.trans hf (by simp))) (HC.out.nil (S.out.frm.trans hf (by simp))) (fun a ha => ⟨(HL.out.ok row hrm a ha).2.2.1, (HL.out.ok row hrm a ha).2.2.2⟩) (by have := HL.out.few row hrm; omega)
      have hsl : (sigB cls row).length ≤ 40000 := Nat.le_trans (sigB_len cls row) (HL.out.few row hrm)
      have HSK := Lib.hid hsk
      have hkey := keysS_at hck hrow
      have hnum := numL_ok ((keysS l cls).take k)
      have hstep : numL ((keysS l cls).take (k + 1)) = nst (numL ((keysS l cls).take k)) (c, sigB cls row) := by rw [take_snoc hkey, numL_snoc]
      have hall : ∀ x ∈ (numL ((keysS l cls).take k)).1, SmallK x := fun x hx => by
        have h1 := List.mem_of_mem_take ((hnum.mem x).1 hx)
        obtain ⟨s, hs, rfl⟩ := List.mem_map.1 h1
        have hs2 := List.mem_range.1 hs
        obtain ⟨c', hc'⟩ : ∃ c', cls[s]? = some c' := ⟨_, List.getElem?_eq_getElem hs2⟩
        obtain ⟨row', hrow'⟩ : ∃ r, l[s]? = some r := ⟨_, List.getElem?_eq_getElem (by rw [HLL.out]; exact hs2)⟩
        rw [hc', hrow']
        exact small_key (HCS.out c' (List.mem_of_getElem? hc')) HCS.out (fun a ha => HL.out.ok row' (List.mem_of_getElem? hrow') a ha)
      have hst2 : (numL ((keysS l cls).take k)).2.length = k := by rw [hnum.len, List.length_take, keysS_len]; omega
      have HNUM := Lib.hid hnum
      have HALL := Lib.hid hall
      have HSTEP := Lib.hid hstep
      have HST2 := Lib.hid hst2
      clear hlcell hrv hcell2 e9 hc2 k0 k1 k2 hrow hrm hkey hck hnum hall hstep hst2 hsk
      go_wp2_with fail
      go_region_held3 (fun w' => w'.cell? ⟨w.heap.size, 0, none⟩ = some (.slice (some ⟨lb, lo, none⟩) cls.length lc) ∧ w'.cell? ⟨lb, lo + k, none⟩ = some (.slice ra row.length rc) ∧ w'.cell? ⟨cb, co + k, none⟩ = some (.int .i64 c))
        (first | exact KEEP.out _ (Frm.refl [] wr).drew | exact KEEP.out _ hy6 | exact KEEP.out _ hy5)
        (first
          | (go_at_call 94; refine (HSG.out _ (Frm.refl [] wr).drew).mono ?_; rintro e5 w5 ⟨⟨v5, rfl, hrv5⟩, hf5⟩; have hy5 := (Frm.refl [] wr).drew.trans hf5 (by simp))
          | (go_at_call 93; refine (skey_any w5 c v5 (sigB cls row) hrv5 HSK.out hsl).mono ?_; rintro e6 w6 ⟨rfl, hf6⟩; have hy6 := hy5.trans hf6 (by simp)))
      have S6 := Lib.hid (S.out.nil hy6)
      by_cases hmem : (c, sigB cls row) ∈ (numL ((keysS l cls).take k)).1
      · have hg := getA_kvK HNUM.out.nd HALL.out hmem
        have hnd := kvK_nodup HNUM.out.nd HALL.out
        obtain ⟨q, hq9⟩ : ∃ q, q = (numL ((keysS l cls).take k)).1.idxOf (c, sigB cls row) := ⟨_, rfl⟩
        rw [← hq9] at hg
        have HG := Lib.hid hg
        have HND := Lib.hid hnd
        have SK := Lib.hid ((S6.out.at_ 1 rfl : KM strV w6 (w.heap.size + 1) (kvK (numL ((keysS l cls).take k)).1)))
        have c9 : ∃ v, ((numL ((keysS l cls).take k)).2 ++ List.replicate (cls.length - k) 0)[k]? = some v := ⟨_, List.getElem?_eq_getElem (by rw [List.length_append, List.length_replicate, HST2.out]; omega)⟩
        obtain ⟨v9, hv9⟩ := c9
        have c0 : w6.cell? ⟨gt, k, none⟩ = some (.int .i64 v9) := ownC_cell (S6.out.at_ 0 rfl) (ints_get hv9)
        have z0 : w6.frozen? ⟨gt, k, none⟩ = false := ownC_frozen (S6.out.at_ 0 rfl) k
        have SD := Lib.hid (S6.out.put 0 rfl k (.int .i64 (q : Int)))
        have HQ9 := Lib.hid hq9
        have HMEM := Lib.hid hmem
        clear hg hnd hv9 hq9 hmem
        go_wp2_with (first | (at_lookup; refine wpl_slook rfl _ _ 128 true rfl Tryz.underlying9 Tryz.underlying128 (zero_int _) (w.heap.size + 1) (kvK (numL ((keysS l cls).take k)).1) rfl SK.out HND.out (keyS (flatK c (sigB cls row))) rfl ?_; rw [HG.out]) | (at_lookup; fail) | fail)
        go_roundg (cls.length - (k + 1))
        case rel =>
          refine ⟨k + 1, rfl, by omega, by go_num, ?_⟩
          have h9 := SD.out
          have e1 : nst (numL ((keysS l cls).take k)) (c, sigB cls row) = ((numL ((keysS l cls).take k)).1, (numL ((keysS l cls).take k)).2 ++ [(q : Int)]) := by rw [HQ9.out]; exact if_pos HMEM.out
          rw [HSTEP.out, e1]
          rw [← ints_set, set_mid' HST2.out (by omega)] at h9
          exact h9
        case measure => have := HQ.out; omega
      · have hg := getA_kvK_no HALL.out HSK.out hmem
        have hnd := kvK_nodup HNUM.out.nd HALL.out
        obtain ⟨q, hq9⟩ : ∃ q, q = (numL ((keysS l cls).take k)).1.length := ⟨_, rfl⟩
        have HG := Lib.hid hg
        have HND := Lib.hid hnd
        have hkm : KM strV w6 (w.heap.size + 1) (kvK (numL ((keysS l cls).take k)).1) := S6.out.at_ 1 rfl
        have SK := Lib.hid hkm
        have hlk : (kvK (numL ((keysS l cls).take k)).1).length = q := by rw [kvK_len, hq9]
        have hlen := str_len hkm q hlk
        have c9 : ∃ v, ((numL ((keysS l cls).take k)).2 ++ List.replicate (cls.length - k) 0)[k]? = some v := ⟨_, List.getElem?_eq_getElem (by rw [List.length_append, List.length_replicate, HST2.out]; omega)⟩
        have C9 := Lib.hid c9
        have HQ9 := Lib.hid hq9
        have HMEM := Lib.hid hmem
        clear hg hnd hkm hlk hq9 hmem hm hmm c9
        go_wp2_with (first | (at_lookup; refine wpl_slook rfl _ _ 128 true rfl Tryz.underlying9 Tryz.underlying128 (zero_int _) (w.heap.size + 1) (kvK (numL ((keysS l cls).take k)).1) rfl SK.out HND.out (keyS (flatK c (sigB cls row))) rfl ?_; rw [HG.out]) | (at_mapUpdate; refine wpl_sput rfl _ _ _ _ rfl Tryz.underlying9 Tryz.underlying128 (w.heap.size + 1) (kvK (numL ((keysS l cls).take k)).1) rfl SK.out HND.out (keyS (flatK c (sigB cls row))) rfl (.int .i64 (q : Int)) rfl HG.out ?_; intro w7 hk7 hf7 hs7; have S7 := Lib.hid (S6.out.step 1 (mapC (w.heap.size + 1) (kvK ((numL ((keysS l cls).take k)).1 ++ [(c, sigB cls row)]))) rfl hf7 (by simp [mapC]) (by rw [kvK_snoc, ← HQ9.out]; exact hk7) (by simp [mapC])); obtain ⟨v9, hv9⟩ := C9.out; have c0 : w7.cell? ⟨gt, k, none⟩ = some (.int .i64 v9) := ownC_cell (S7.out.at_ 0 rfl) (ints_get hv9); have z0 : w7.frozen? ⟨gt, k, none⟩ = false := ownC_frozen (S7.out.at_ 0 rfl) k; have SD := Lib.hid (S7.out.put 0 rfl k (.int .i64 (q : Int))); clear hk7 hf7 hs7 hv9) | fail)
        go_roundg (cls.length - (k + 1))
        case rel =>
          refine ⟨k + 1, rfl, by omega, by go_num, ?_⟩
          have h9 := SD.out
          have e1 : nst (numL ((keysS l cls).take k)) (c, sigB cls row) = ((numL ((keysS l cls).take k)).1 ++ [(c, sigB cls row)], (numL ((keysS l cls).take k)).2 ++ [(q : Int)]) := by rw [HQ9.out]; exact if_neg HMEM.out
          rw [HSTEP.out, e1]
          rw [← ints_set, set_mid' HST2.out (by omega)] at h9
          exact h9
        case measure => have := HQ.out; omega
    · have i5 : ¬ (k : Int) < (cls.length : Int) := by omega
      have hkl : k = cls.length := by omega
      have h9 := S.out
      have e1 : (keysS l cls).take k = keysS l cls := List.take_of_length_le (by rw [keysS_len]; omega)
      rw [e1, hkl, Nat.sub_self, List.replicate_zero, List.append_nil] at h9
      have S9 := Lib.hid h9
      clear h9 S
      go_wp2_with fail
      go_ret
      exact ⟨_, rfl, S9.out.take 1⟩
end Go.Proofs.YtdknbgejhhoaiaaGreat.Ind

/- Rounds of strong bisimulation; contract of strong.classes. -/
namespace Go.Proofs.YtdknbgejhhoaiaaGreat.Ind
open Go.Shelf Go.RowKit Go.Lib Go.Sort Go.Maps Go.Proofs.YtdknbgejhhoaiaaGreat.Beh

/-- The keys of round r, and the numbers that they get. -/
def ksR (l : List (List Ar)) (n : Nat) : Nat → List SK
  | 0 => List.replicate n (0, [])
  | r + 1 => keysS l (numL (ksR l n r)).2
def rnd (l : List (List Ar)) (n : Nat) (r : Nat) : List Int := (numL (ksR l n r)).2
def cntR (l : List (List Ar)) (n : Nat) (r : Nat) : Nat := (numL (ksR l n r)).1.length
theorem ksR_len (l : List (List Ar)) (n r : Nat) : (ksR l n r).length = n := by
  induction r with
  | zero => simp [ksR]
  | succ r ih => rw [ksR, keysS_len, (numL_ok _).len, ih]
theorem rnd_len (l : List (List Ar)) (n r : Nat) : (rnd l n r).length = n := by rw [rnd, (numL_ok _).len, ksR_len]
theorem rnd_next (l : List (List Ar)) (n r : Nat) : nextB l (rnd l n r) = rnd l n (r + 1) := rfl
theorem cnt_le (l : List (List Ar)) (n r : Nat) : cntR l n r ≤ n := by
  have := (numL_ok (ksR l n r)).few
  rw [ksR_len] at this
  exact this
theorem numL_val {ks : List SK} {c : Int} (h : c ∈ (numL ks).2) : 0 ≤ c ∧ c < ks.length := by
  obtain ⟨j, hj⟩ := List.getElem?_of_mem h
  have ho := numL_ok ks
  have hlt : j < ks.length := by rw [← ho.len]; exact (List.getElem?_eq_some_iff.1 hj).1
  obtain ⟨k, hk⟩ : ∃ k, ks[j]? = some k := ⟨_, List.getElem?_eq_getElem hlt⟩
  rw [ho.at_ j k hk] at hj
  simp only [Option.some.injEq] at hj
  have h1 := List.idxOf_lt_length_iff.2 ((ho.mem k).2 (List.mem_of_getElem? hk))
  have := ho.few
  omega
theorem rnd_zero (l : List (List Ar)) (n : Nat) : rnd l n 0 = List.replicate n 0 := by
  apply List.ext_getElem?
  intro i
  by_cases hi : i < n
  · have hk : (ksR l n 0)[i]? = some (0, []) := by simp [ksR, hi]
    have := (numL_ok (ksR l n 0)).at_ i _ hk
    rw [rnd, this, List.getElem?_replicate, if_pos hi]
    have hs : ∀ x ∈ (numL (ksR l n 0)).1, x = ((0, []) : SK) := fun x hx => by
      have := ((numL_ok (ksR l n 0)).mem x).1 hx
      exact List.eq_of_mem_replicate this
    have hm := ((numL_ok (ksR l n 0)).mem _).2 (List.mem_of_getElem? hk)
    cases h : (numL (ksR l n 0)).1 with
    | nil => rw [h] at hm; cases hm
    | cons a t =>
      have : a = ((0, []) : SK) := hs a (by rw [h]; simp)
      subst this
      simp
  · rw [List.getElem?_eq_none (by rw [rnd_len]; omega), List.getElem?_eq_none (by simp; omega)]
/-- A finer numbering has at least as many numbers; if it has as many it is the same. -/
theorem num_fine : ∀ (n : Nat) (ks ks' : List SK), ks.length = n → ks'.length = n → (∀ (i j : Nat) (x : SK), ks'[i]? = some x → ks'[j]? = some x → ks[i]? = ks[j]?) → (numL ks).1.length ≤ (numL ks').1.length ∧ ((numL ks).1.length = (numL ks').1.length → (numL ks).2 = (numL ks').2) := by
  intro n
  induction n with
  | zero =>
    intro ks ks' h1 h2 _
    rw [List.eq_nil_of_length_eq_zero h1, List.eq_nil_of_length_eq_zero h2]
    exact ⟨Nat.le_refl _, fun _ => rfl⟩
  | succ n ih =>
    intro ks ks' h1 h2 h
    obtain ⟨a, x, rfl⟩ : ∃ a x, ks = a ++ [x] := ⟨ks.dropLast, ks.getLast (fun e => by rw [e] at h1; simp at h1), (List.dropLast_concat_getLast _).symm⟩
    obtain ⟨b, y, rfl⟩ : ∃ a x, ks' = a ++ [x] := ⟨ks'.dropLast, ks'.getLast (fun e => by rw [e] at h2; simp at h2), (List.dropLast_concat_getLast _).symm⟩
    have ha : a.length = n := by simpa using h1
    have hb : b.length = n := by simpa using h2
    have hx : (a ++ [x])[n]? = some x := by rw [List.getElem?_append_right (by omega), ha, Nat.sub_self]; rfl
    have hy : (b ++ [y])[n]? = some y := by rw [List.getElem?_append_right (by omega), hb, Nat.sub_self]; rfl
    have hsub : ∀ (i j : Nat) (z : SK), b[i]? = some z → b[j]? = some z → a[i]? = a[j]? := fun i j z hi hj => by
      have li := (List.getElem?_eq_some_iff.1 hi).1
      have lj := (List.getElem?_eq_some_iff.1 hj).1
      have := h i j z (by rw [List.getElem?_append_left li]; exact hi) (by rw [List.getElem?_append_left lj]; exact hj)
      rwa [List.getElem?_append_left (by omega), List.getElem?_append_left (by omega)] at this
    obtain ⟨i1, i2⟩ := ih a b ha hb hsub
    have oa := numL_ok a
    have ob := numL_ok b
    rw [numL_snoc, numL_snoc]
    have hold : y ∈ b → ∃ j, j < n ∧ b[j]? = some y ∧ a[j]? = some x := fun hm => by
      obtain ⟨j, hj⟩ := List.getElem?_of_mem hm
      have lj := (List.getElem?_eq_some_iff.1 hj).1
      have := h j n y (by rw [List.getElem?_append_left lj]; exact hj) hy
      rw [hx, List.getElem?_append_left (by omega)] at this
      exact ⟨j, by omega, hj, this⟩
    by_cases my : y ∈ (numL b).1
    · obtain ⟨j, hjn, hj1, hj2⟩ := hold ((ob.mem y).1 my)
      have mx : x ∈ (numL a).1 := (oa.mem x).2 (List.mem_of_getElem? hj2)
      have e1 : nst (numL a) x = ((numL a).1, (numL a).2 ++ [((numL a).1.idxOf x : Int)]) := if_pos mx
      have e2 : nst (numL b) y = ((numL b).1, (numL b).2 ++ [((numL b).1.idxOf y : Int)]) := if_pos my
      rw [e1, e2]
      refine ⟨i1, fun he => ?_⟩
      have := i2 he
      have h3 := oa.at_ j x hj2
      have h4 := ob.at_ j y hj1
      rw [this, h4] at h3
      simp only [Option.some.injEq] at h3
      show (numL a).2 ++ _ = (numL b).2 ++ _
      rw [this, h3]
    · have e2 : nst (numL b) y = ((numL b).1 ++ [y], (numL b).2 ++ [((numL b).1.length : Int)]) := if_neg my
      rw [e2]
      by_cases mx : x ∈ (numL a).1
      · have e1 : nst (numL a) x = ((numL a).1, (numL a).2 ++ [((numL a).1.idxOf x : Int)]) := if_pos mx
        rw [e1]
        refine ⟨by simp; omega, fun he => ?_⟩
        simp at he
        omega
      · have e1 : nst (numL a) x = ((numL a).1 ++ [x], (numL a).2 ++ [((numL a).1.length : Int)]) := if_neg mx
        rw [e1]
        refine ⟨by simp; exact i1, fun he => ?_⟩
        have he2 : (numL a).1.length = (numL b).1.length := by simpa using he
        show (numL a).2 ++ _ = (numL b).2 ++ _
        rw [i2 he2, he2]
theorem keysS_fine {l : List (List Ar)} {cls : List Int} {i j : Nat} {x : SK} (hi : (keysS l cls)[i]? = some x) (hj : (keysS l cls)[j]? = some x) : cls[i]? = cls[j]? := by
  have li : i < cls.length := by rw [← keysS_len l cls]; exact (List.getElem?_eq_some_iff.1 hi).1
  have lj : j < cls.length := by rw [← keysS_len l cls]; exact (List.getElem?_eq_some_iff.1 hj).1
  have e : ∀ i, i < cls.length → (keysS l cls)[i]? = some x → cls[i]? = some x.1 := fun i h1 h2 => by
    simp only [keysS, List.getElem?_map, List.getElem?_range h1, Option.map_some, Option.some.injEq] at h2
    rw [← h2, List.getElem?_eq_getElem h1]
    rfl
  rw [e i li hi, e j lj hj]
theorem cnt_step (l : List (List Ar)) (n r : Nat) : cntR l n r ≤ cntR l n (r + 1) ∧ (cntR l n r = cntR l n (r + 1) → rnd l n r = rnd l n (r + 1)) := by
  refine num_fine n (ksR l n r) (ksR l n (r + 1)) (ksR_len ..) (ksR_len ..) (fun i j x hi hj => ?_)
  have h1 := keysS_fine (l := l) (cls := rnd l n r) hi hj
  have li : i < n := by rw [← ksR_len l n (r + 1)]; exact (List.getElem?_eq_some_iff.1 hi).1
  have lj : j < n := by rw [← ksR_len l n (r + 1)]; exact (List.getElem?_eq_some_iff.1 hj).1
  obtain ⟨p, hp⟩ : ∃ p, (ksR l n r)[i]? = some p := ⟨_, List.getElem?_eq_getElem (by rw [ksR_len]; exact li)⟩
  obtain ⟨q, hq⟩ : ∃ p, (ksR l n r)[j]? = some p := ⟨_, List.getElem?_eq_getElem (by rw [ksR_len]; exact lj)⟩
  have o := numL_ok (ksR l n r)
  rw [rnd, o.at_ i p hp, o.at_ j q hq] at h1
  simp only [Option.some.injEq] at h1
  have mp := (o.mem p).2 (List.mem_of_getElem? hp)
  have h2 : (numL (ksR l n r)).1.idxOf p = (numL (ksR l n r)).1.idxOf q := by omega
  have g1 : (numL (ksR l n r)).1[(numL (ksR l n r)).1.idxOf p]? = some p := by
    rw [List.getElem?_eq_getElem (List.idxOf_lt_length_iff.2 mp)]; simp
  have g2 : (numL (ksR l n r)).1[(numL (ksR l n r)).1.idxOf q]? = some q := by
    rw [List.getElem?_eq_getElem (List.idxOf_lt_length_iff.2 ((o.mem q).2 (List.mem_of_getElem? hq)))]; simp
  rw [h2, g2] at g1
  rw [hp, hq, g1]

def ClassEnd (w : World) (l : List (List Ar)) (n : Nat) (e : Ending) (w' : World) : Prop := ∃ a c r, e = .returned (.slice a n c) ∧ rnd l n (r + 1) = rnd l n r ∧ Sep w w' [intsC (.slice a n c) n (rnd l n r)]

set_option linter.unusedSimpArgs false in
set_option maxRecDepth 100000 in
set_option maxHeartbeats 8000000 in
theorem classes_any (w : World) (lv : Value) (l : List (List Ar)) (n : Nat) (h : LtsAt w [] lv l) (hl : LOk l n) (hn : n ≤ 40000) :
    Calls Tryz.prog 42 #[.agg #[lv]] w (ClassEnd w l n) := by
  obtain ⟨la, lc, rfl, hlf⟩ := ltsShape h
  have hll := hl.len
  have i1 : (n : Int) ≤ 40000 := by omega
  have H := Lib.hid h
  have HL := Lib.hid hl
  rw [hll]
  have HLL := Lib.hid hll
  rw [hll] at hlf
  clear h hl hll
  go_enter Tryz.func42, Tryz.ntmps42
  go_wp2_with (first | (at_make; refine wpl_make_i _ rfl (.tmp 7) rfl _ n rfl rfl (by omega) ?_) | (at_make; fail))
  intro w2 own2 hf2
  obtain ⟨W, hW⟩ : ∃ W, W = w.alloc (.cells #[.slice la n lc] 25) := ⟨_, rfl⟩
  have s1 : Sep w W [boxC w.heap.size 25 [.slice la n lc]] := by
    have h1 := (Sep.start w).add (boxC w.heap.size 25 [.slice la n lc]) ((Frm.refl [] w).alloc _) (RowAt.made w 25 _ #[.slice la n lc] rfl) (by simp [boxC])
    rw [← hW] at h1
    exact h1
  have hWs : W.heap.size = w.heap.size + 1 := by rw [hW]; simp
  rw [← hW] at hf2
  obtain ⟨gt, hgt⟩ : ∃ g, g = w.heap.size + 1 := ⟨_, rfl⟩
  rw [← hgt] at own2 ⊢
  have s2 := s1.add (intsC (.slice (some ⟨gt, 0, none⟩) n n) n (List.replicate n 0)) hf2 (ownC_of own2) (fun k hk => by
    have := (own2.lt k (by simpa [ownC] using hk)).1
    omega)
  rw [← rnd_zero l n] at s2
  have S2 := Lib.hid s2
  clear own2 hf2 s1 s2 hW hgt hWs
  go_wp2_with fail
  go_loopg [3] (n - cntR l n 0) (fun q t3 wr => ∃ (r : Nat) (na : Option Addr) (nc : Nat), q = n - cntR l n r ∧ t3 = .slice na n nc ∧ Sep w wr [intsC (.slice na n nc) n (rnd l n r), boxC w.heap.size 25 [.slice la n lc]])
  case atStart => exact ⟨0, _, _, rfl, rfl, S2.out⟩
  case round =>
    clear S2
    obtain ⟨r, na, nc, hq, rfl, hs⟩ := hrel
    have HQ := Lib.hid hq
    have S := Lib.hid hs
    have k0 := (show RowAt wr w.heap.size 25 [.slice la n lc] from S.out.at_ 1 rfl).cell (i := 0) rfl
    clear hq hs
    have HNX : Hid (∀ W, Frm [] wr W → Calls Tryz.prog 66 #[.agg #[.slice la n lc], .slice na n nc] W (NextEnd W l (rnd l n r))) := Lib.hid fun W hf => by
      have h9 := snext_any W (.slice la n lc) l (.slice na n nc) (rnd l n r) (by
        have := H.out.nil (S.out.frm.trans hf (by simp))
        rwa [HLL.out] at this) (by rw [rnd_len]; exact HL.out) (by
        rw [rnd_len]
        exact rowV_of_owns ((S.out.nil hf).at_ 0 rfl) (by simp)) (fun c hc => by
        have := numL_val hc
        rw [ksR_len] at this
        omega) (by rw [rnd_len]; exact hn)
      exact h9
    go_wp2_with (first | (go_at_call 66; refine (HNX.out _ (Frm.refl [] wr)).mono ?_; rintro e5 w5 ⟨v5, rfl, hs5⟩; rw [rnd_next, rnd_len] at hs5; obtain ⟨a5, c5, rfl⟩ := RowV.shape (rowV_of_owns (F := []) (hs5.at_ 0 rfl) (by simp)); have S5 := Lib.hid (S.out.append hs5); have hyq := equal_any w5.heap.size na a5 nc c5 (rnd l n r) (rnd l n (r + 1)) w5 (by rw [rnd_len]; exact rd_of_owns (S5.out.at_ 1 rfl) (Nat.le_refl _)) (by rw [rnd_len]; exact rd_of_owns (S5.out.at_ 0 rfl) (Nat.le_refl _)); rw [rnd_len, rnd_len] at hyq; have HEQ := Lib.hid hyq; clear hyq hs5) | (go_at_call 67; refine HEQ.out.mono ?_; rintro e6 w6 ⟨rfl, hf6⟩) | fail)
    · rename_i heq
      go_ret
      exact ⟨na, nc, r, rfl, heq.symm, ((S5.out.nil hf6).pull 1 rfl).take 1⟩
    · rename_i hne
      have h8 := cnt_step l n r
      have h9 := cnt_le l n (r + 1)
      have hlt : Hid (cntR l n r < cntR l n (r + 1) ∧ cntR l n (r + 1) ≤ n) := Lib.hid ⟨by
        rcases Nat.lt_or_ge (cntR l n r) (cntR l n (r + 1)) with h | h
        · exact h
        · exact absurd (h8.2 (by omega)) hne, h9⟩
      clear h8 h9 hne
      go_roundg (n - cntR l n (r + 1))
      case rel => exact ⟨r + 1, a5, c5, rfl, rfl, ((S5.out.nil hf6).pull 1 rfl).tail⟩
      case measure => have := HQ.out; have := hlt.out; omega
end Go.Proofs.YtdknbgejhhoaiaaGreat.Ind
