/- HeapOnce: the plain law on the states of thunks, and the walk. -/
import Derived.Test.YtlpgonnionbkfaaX2
import Derived.Deep.OwnRows
namespace Go.Proofs.Ytlpgonnionbkfaa
open Go.RowKit

def stc (k i s : Nat) : HC := match s with
  | 0 => ⟨1, i, []⟩
  | 1 => ⟨2, i, []⟩
  | _ => ⟨3, i, [(k : Int)]⟩
def csT (j : Nat) : List HC := (List.range j).map fun (i : Nat) => ⟨1, (i : Int), []⟩
def csO (k : Nat) (f : Nat → Nat) : List HC := (List.range k).map (fun (i : Nat) => stc k i (f i)) ++ [⟨4, 99, []⟩]
def rowO (k : Nat) (f : Nat → Nat) : List Value := (List.range k).map fun (i : Nat) => Value.int .i64 (f i)
def upd (f : Nat → Nat) (r s : Nat) : Nat → Nat := fun i => if i = r then s else f i

@[simp] theorem csT_len (j : Nat) : (csT j).length = j := by simp [csT]
theorem csT_succ (j : Nat) : csT j ++ [⟨1, (j : Int), []⟩] = csT (j + 1) := by simp [csT, List.range_succ]
theorem csT_data (k : Nat) : csT k ++ [⟨4, 99, []⟩] = csO k (fun _ => 0) := by simp [csT, csO, stc]
@[simp] theorem csO_len (k : Nat) (f : Nat → Nat) : (csO k f).length = k + 1 := by simp [csO]
theorem csO_get (k : Nat) (f : Nat → Nat) (i : Nat) (h : i < k) : (csO k f)[i]? = some (stc k i (f i)) := by
  rw [csO, List.getElem?_append_left (by simpa using h)]
  simp [h]
theorem csO_data (k : Nat) (f : Nat → Nat) : (csO k f)[k]? = some ⟨4, 99, []⟩ := by
  rw [csO, List.getElem?_append_right (by simp)]
  simp
theorem csO_set (k : Nat) (f : Nat → Nat) (r s : Nat) (h : r < k) : (csO k f).set r (stc k r s) = csO k (upd f r s) := by
  rw [csO, List.set_append_left _ _ (by simpa using h), csO]
  congr 1
  apply List.ext_getElem?
  intro i
  rw [List.getElem?_set]
  by_cases hi : i < k
  · by_cases hir : r = i
    · subst hir; simp [h, upd]
    · have : ¬ i = r := fun e => hir e.symm
      simp [hi, hir, upd, this]
  · have : r ≠ i := by omega
    simp [hi, this]
theorem rowO_get (k : Nat) (f : Nat → Nat) (r : Nat) (h : r < k) : (rowO k f)[r]? = some (.int .i64 (f r)) := by simp [rowO, h]
theorem rowO_set (k : Nat) (f : Nat → Nat) (r s : Nat) (h : r < k) : (rowO k f).set r (.int .i64 s) = rowO k (upd f r s) := by
  apply List.ext_getElem?
  intro i
  rw [List.getElem?_set]
  by_cases hi : i < k
  · by_cases hir : r = i
    · subst hir; simp [rowO, h, upd]
    · have : ¬ i = r := fun e => hir e.symm
      simp [rowO, hi, hir, upd, this]
  · have : r ≠ i := by omega
    simp [rowO, hi, this]

theorem fol_self (cs : List HC) (c : HC) (r n : Nat) (hc : cs[r]? = some c) (hk : c.kind ≠ 3) : fol cs (n + 1) r = some r := by
  simp [fol, hc, hk]
theorem fol_link (cs : List HC) (r t n : Nat) (num : Int) (hc : cs[r]? = some ⟨3, num, [(t : Int)]⟩) (d : HC) (hd : cs[t]? = some d) (hk : d.kind ≠ 3) : fol cs (n + 1 + 1) r = some t := by
  have h1 := fol_self cs d t n hd hk
  rw [fol, hc]
  simp only [if_true]
  rw [if_pos (by omega), Int.toNat_natCast]
  exact h1

theorem madeRow (w : World) (k : Nat) : RowAt (w.alloc (.cells (madeCells #[.int .i64 0] k) 3)) w.heap.size 3 (rowO k (fun _ => 0)) := by
  refine RowAt.made w 3 _ _ ?_
  have hl : (rowO k (fun _ => 0)).length = k := by simp [rowO]
  apply List.ext_getElem?
  intro i
  rw [List.getElem?_take]
  by_cases hi : i < k
  · rw [hl, if_pos hi]; simp [hi, madeCells, rowO, Nat.mod_one]
  · rw [hl, if_neg hi]; simp [hi, rowO]

theorem once_close {w v : World} {H S j r : Nat} {fp : List Nat} {f : Nat → Nat} {cs : List HC} (s : Nat) (hh : HR v H fp 100 cs) (hF : Frm [] w v) (hrow : RowAt v S 3 (rowO j f)) (hS : S ∉ fp) (hSw : w.heap.size ≤ S) (hr : r < j) :
    HR (v.setCell ⟨S, r, none⟩ (.int .i64 s)) H fp 100 cs ∧ Frm [] w (v.setCell ⟨S, r, none⟩ (.int .i64 s)) ∧ RowAt (v.setCell ⟨S, r, none⟩ (.int .i64 s)) S 3 (rowO j (upd f r s)) := by
  refine ⟨hh.frm (fq := [S]) ((Frm.refl _ _).setCell (.inl (by simp)) _) (by intro k hk e; simp at e; subst e; exact hS hk), hF.setCell (.inr hSw) _, ?_⟩
  have := hrow.setCell r (.int .i64 s)
  rwa [rowO_set j f r s hr] at this

theorem upd_le {f : Nat → Nat} {r s : Nat} (h : ∀ i, f i ≤ 2) (hs : s ≤ 2) : ∀ i, upd f r s i ≤ 2 := by
  intro i
  unfold upd
  split
  · exact hs
  · exact h i

set_option maxRecDepth 100000 in
set_option maxHeartbeats 2000000 in
theorem once_walk (a0 : Int) (ha : 0 ≤ a0) (hb : a0 ≤ 255) (a : Option Addr) (len cap : Nat) (_hlen : (len : Int) ≤ 9223372036854775807) (w : World)
    (ho : ∀ i, i < len → ∃ b o x, a = some ⟨b, o, none⟩ ∧ w.cell? ⟨b, o + i, none⟩ = some (.int .u8 x) ∧ 0 ≤ x ∧ x ≤ 255) :
    Calls Try.prog 3 #[.int .u8 a0, .slice a len cap] w fun e w' => e = .returned (.bool true) ∧ Frm [] w w' := by
  obtain ⟨k, hk, hk2, hk41⟩ : ∃ k : Nat, (k : Int) = 1 + a0 % 20 ∧ 1 ≤ k ∧ k ≤ 20 := ⟨(1 + a0 % 20).toNat, by omega, by omega, by omega⟩
  have e1 : 0 ≤ a0 % 20 := by omega
  have e2 : a0 % 20 ≤ 19 := by omega
  have HK := Lib.hid hk
  have HO := Lib.hid ho
  clear hk ho
  go_enter Try.func3, Try.ntmps3
  go_wp2_with fail
  refine (hr_new 100 _ (by decide) (by decide)).mono ?_
  rintro e w1 ⟨rfl, f1, h1⟩
  go_wp2_with fail
  refine (awake_any _).mono ?_
  rintro e w2 ⟨rfl, f2⟩
  have h2 := h1.frm f2 (by simp)
  have F2 := f1.trans f2 (by simp)
  clear f1 f2 h1
  go_wp2_with fail
  rw [← HK.out]
  -- the first loop: k thunks
  go_loopg [8] k (fun g i wr => ∃ (j : Nat) (fp : List Nat), g = k - j ∧ j ≤ k ∧ i = .int .i64 j ∧ HR wr w.heap.size fp 100 (csT j) ∧ Frm [] w wr ∧ ∀ x ∈ fp, w.heap.size ≤ x)
  case atStart => exact ⟨0, _, rfl, by omega, rfl, h2, F2, by simp⟩
  case round =>
    clear h2 F2
    obtain ⟨j, fp, rfl, hj, rfl, hr, hF, hge⟩ := hrel
    have HF := Lib.hid hF
    have HG := Lib.hid hge
    clear hF hge
    by_cases hlt : j < k
    · have hal := hr_alloc hr 1 j _ [] (nil_ints _) (.inl rfl) (by simp [refersB]) (by simp; omega) (by decide)
      rw [csT_len, csT_succ] at hal
      clear hr
      go_wp2_with fail
      refine hal.mono ?_
      rintro e v1 ⟨rfl, fp1, h1, f1, s1⟩
      clear hal
      have g1 := ge_step HG.out HF.out.size s1
      have F1 := HF.out.all f1 HG.out rfl
      go_wp2_with fail
      go_roundg (k - (j + 1))
      case rel => exact ⟨j + 1, fp1, rfl, by omega, by go_num, h1, F1, g1⟩
      case measure => omega
    · obtain rfl : j = k := by omega
      have hal := hr_alloc hr 4 99 _ [] (nil_ints _) (.inr (by decide)) (by simp [refersB]) (by simp; omega) (by decide)
      rw [csT_len, csT_data] at hal
      clear hr
      have hmk := run_make_row' (P := Try.prog) 30 3 (.int .i64 0) 8 Try.underlying30 Try.info3 rfl .i64 .i64 j (by omega) (by omega)
      go_wp2_with fail
      refine hal.mono ?_
      rintro e v1 ⟨rfl, fp1, h1, f1, s1⟩
      clear hal
      have g1 := ge_step HG.out HF.out.size s1
      have F1 := HF.out.all f1 HG.out rfl
      clear HF HG f1 s1
      go_wp2_with fail
      have fm : Frm [] v1 (v1.alloc (.cells (madeCells #[.int .i64 0] j) 3)) := (Frm.refl _ _).alloc _
      have hm := madeRow v1 j
      have h2 := h1.frm fm (by simp)
      have F2 := F1.trans fm (by simp)
      have hS : v1.heap.size ∉ fp1 := fun hx => by have := h1.lt _ hx; omega
      have hSw : w.heap.size ≤ v1.heap.size := F1.size
      clear h1 F1 fm
      obtain ⟨S, hSe⟩ : ∃ S, v1.heap.size = S := ⟨_, rfl⟩
      rw [hSe] at hm hS hSw
      generalize (v1.alloc (.cells (madeCells #[.int .i64 0] j) 3)) = v2 at *
      rw [hSe]
      clear hSe hmk
      go_loopg [12] 60 (fun g i wr => ∃ (m : Nat) (fp : List Nat) (f : Nat → Nat), g = 60 - m ∧ m ≤ 60 ∧ i = .int .i64 m ∧ HR wr w.heap.size fp 100 (csO j f) ∧ Frm [] w wr ∧ (∀ x ∈ fp, w.heap.size ≤ x) ∧
        RowAt wr S 3 (rowO j f) ∧ S ∉ fp ∧ ∀ i, f i ≤ 2)
      case atStart => exact ⟨0, fp1, fun _ => 0, rfl, by omega, rfl, h2, F2, g1, hm, hS, fun _ => Nat.zero_le _⟩
      case round =>
        clear h2 F2 g1 hm hS
        obtain ⟨m, fp, f, rfl, hmm, rfl, hr, hF, hge, hrow, hSn, hf2⟩ := hrel
        have HF := Lib.hid hF
        have HG := Lib.hid hge
        have HR0 := Lib.hid hr
        have HS := Lib.hid hSn
        have HW := Lib.hid hrow
        have H2 := Lib.hid hf2
        clear hF hge hr hSn hrow hf2
        by_cases hlt : m < len ∧ m < 60
        · obtain ⟨hl1, hl2⟩ := hlt
          obtain ⟨b, o, x, rfl, hc, hx0, hx1⟩ := HO.out m hl1
          have hc' := HF.out.cell hc (by simp)
          clear hc
          obtain ⟨r, hr⟩ : ∃ r : Nat, x % (j : Int) = r := ⟨(x % (j : Int)).toNat, by
            have := Int.emod_nonneg x (show (j : Int) ≠ 0 by omega); omega⟩
          have hrj : r < j := by have := Int.emod_lt_of_pos x (show (0 : Int) < j by omega); omega
          have hst := HW.out.cell (rowO_get j f r hrj)
          have hsz := HW.out.frozen r
          have hget := csO_get j f r hrj
          have hset := csO_set j f r
          have HGET := Lib.hid hget
          have HSET := Lib.hid hset
          clear hget hset
          have hle := H2.out r
          rcases (show f r = 0 ∨ f r = 1 ∨ f r = 2 by omega) with hfr | hfr | hfr
          · rw [hfr] at hst
            have hen := hr_enter_thunk HR0.out r r r [] (by simp; omega) (by rw [csO_len]; exact fol_self _ _ _ _ HGET.out (by rw [hfr]; simp [stc])) (by rw [HGET.out, hfr]; rfl)
            have hs1 : (⟨2, (r : Int), []⟩ : HC) = stc j r 1 := rfl
            rw [hs1, HSET.out 1 hrj] at hen
            have HFR := Lib.hid hfr
            clear hle hfr hs1
            go_wp2_with fail
            refine hen.mono ?_
            rintro e v3 ⟨a2, c2, rfl, _, fp2, h3, f3, s3⟩
            clear hen hst hsz
            have g3 := ge_step HG.out HF.out.size s3
            have F3 := HF.out.all f3 HG.out rfl
            have W3 := HW.out.frm f3 HS.out
            have S3 := notin_step HS.out HW.out.lt s3
            have hst := W3.cell (rowO_get j f r hrj)
            rw [HFR.out] at hst
            have hsz := W3.frozen r
            have hSl : S < v3.heap.size := W3.lt
            have hne : S ≠ v3.heap.size := by omega
            have G3 := Lib.hid g3
            have FF3 := Lib.hid F3
            have WW3 := Lib.hid W3
            have SS3 := Lib.hid S3
            have HH3 := Lib.hid h3
            clear g3 F3 W3 S3 f3 s3 h3
            go_wp2_with fail
            go_roundg (60 - (m + 1))
            case rel =>
              have R := once_close 1 HH3.out FF3.out WW3.out SS3.out hSw hrj
              exact ⟨m + 1, fp2, upd f r 1, rfl, by omega, by go_num, R.1.frm ((Frm.refl [] _).alloc _) (by simp), R.2.1.alloc _, G3.out, R.2.2.alloc _, SS3.out, upd_le H2.out (by omega)⟩
            case measure => omega
          · rw [hfr] at hst
            have hen := hr_enter_other HR0.out r r ⟨2, r, []⟩ (by simp; omega) (by rw [csO_len]; exact fol_self _ _ _ _ HGET.out (by rw [hfr]; simp [stc])) (by rw [HGET.out, hfr]; rfl) (by simp)
            have HFR := Lib.hid hfr
            clear hle hfr
            go_wp2_with fail
            refine hen.mono ?_
            rintro e v3 ⟨rfl, f3⟩
            clear hen hst hsz
            have fz : Frm [] v3 (v3.alloc (.cells zcell 32)) := (Frm.refl _ _).alloc _
            have h3 := (HR0.out.frm f3 (by simp)).frm fz (by simp)
            have F3 := (HF.out.trans f3 (by simp)).trans fz (by simp)
            have W3 := (HW.out.frm f3 (by simp)).frm fz (by simp)
            have hst := W3.cell (rowO_get j f r hrj)
            rw [HFR.out] at hst
            have hup := hr_update_ok h3 r j j r [] (by rw [HGET.out, HFR.out]; rfl) (by simp) (by rw [csO_len]; exact fol_self _ _ _ _ (csO_data j f) (by simp)) (by omega)
            have hs1 : (⟨3, (r : Int), [(j : Int)]⟩ : HC) = stc j r 2 := rfl
            rw [hs1, HSET.out 2 hrj] at hup
            have FF3 := Lib.hid F3
            have WW3 := Lib.hid W3
            clear F3 W3 f3 h3 fz hs1
            go_wp2_with fail
            refine hup.mono ?_
            rintro e v4 ⟨rfl, fp2, h4, f4, s4⟩
            clear hup hst
            have g4 := ge_step HG.out FF3.out.size s4
            have F4 := FF3.out.all f4 HG.out rfl
            have W4 := WW3.out.frm f4 HS.out
            have S4 := notin_step HS.out WW3.out.lt s4
            have hst := W4.cell (rowO_get j f r hrj)
            rw [HFR.out] at hst
            have hsz := W4.frozen r
            have G4 := Lib.hid g4
            have FF4 := Lib.hid F4
            have WW4 := Lib.hid W4
            have SS4 := Lib.hid S4
            have HH4 := Lib.hid h4
            clear g4 F4 W4 S4 f4 s4 h4
            go_wp2_with fail
            go_roundg (60 - (m + 1))
            case rel =>
              have R := once_close 2 HH4.out FF4.out WW4.out SS4.out hSw hrj
              exact ⟨m + 1, fp2, upd f r 2, rfl, by omega, by go_num, R.1, R.2.1, G4.out, R.2.2, SS4.out, upd_le H2.out (by omega)⟩
            case measure => omega
          · rw [hfr] at hst
            have hen := hr_enter_other HR0.out r j ⟨4, 99, []⟩ (by simp; omega) (by rw [csO_len]; obtain ⟨q, hq⟩ : ∃ q, j = q + 1 := ⟨j - 1, by omega⟩; have := fol_link (csO j f) r j q r (by rw [HGET.out, hfr]; rfl) _ (csO_data j f) (by simp); rw [hq] at this ⊢; exact this) (csO_data j f) (by simp)
            have HFR := Lib.hid hfr
            clear hle hfr
            go_wp2_with fail
            refine hen.mono ?_
            rintro e v3 ⟨rfl, f3⟩
            clear hen hst hsz
            have h3 := HR0.out.frm f3 (by simp)
            have F3 := HF.out.trans f3 (by simp)
            have W3 := HW.out.frm f3 (by simp)
            have hst := W3.cell (rowO_get j f r hrj)
            rw [HFR.out] at hst
            have hsz := W3.frozen r
            have hSl : S < v3.heap.size := W3.lt
            have hne : S ≠ v3.heap.size := by omega
            have FF3 := Lib.hid F3
            have WW3 := Lib.hid W3
            have HH3 := Lib.hid h3
            clear F3 W3 f3 h3
            go_wp2_with fail
            go_roundg (60 - (m + 1))
            case rel =>
              have R := once_close 2 HH3.out FF3.out WW3.out HS.out hSw hrj
              have hu : upd f r 2 = f := by funext i; unfold upd; split; (rename_i h; rw [h, HFR.out]); rfl
              rw [hu] at R
              exact ⟨m + 1, fp, f, rfl, by omega, by go_num, R.1.frm ((Frm.refl [] _).alloc _) (by simp), R.2.1.alloc _, HG.out, R.2.2.alloc _, HS.out, H2.out⟩
            case measure => omega
        · go_wp2_with fail
          all_goals
            go_ret
            exact ⟨rfl, HF.out⟩
end Go.Proofs.Ytlpgonnionbkfaa
