/- Merged text: GN, GO of the notes. -/
import Derived.Test.YtikpcipkkhmcfaaGreatQ06
import Derived.Test.YtikpcipkkhmcfaaGreatQ03
import Derived.Deep.DeepCutAuto
/- Contract of Copy. -/
namespace Go.Proofs.YtikpcipkkhmcfaaGreat
open Go.RowKit

/-- A system that the call has made, each row in a block of its own. -/
structure SysO (B : Nat) (w : World) (a : Option Addr) (cap : Nat) (l : Lts) (xs : List Value) : Prop where
  out : w.ownsRow B 63 1 (.slice a l.length cap) l.length xs
  row : ∀ (i : Nat) (row : List Arc), l[i]? = some row → ∃ g rc, xs[i]? = some (.slice (some ⟨g, 0, none⟩) row.length rc) ∧ OwnR B w (.slice (some ⟨g, 0, none⟩) row.length rc) row
  sep : ∀ (i : Nat) (u : Value), xs[i]? = some u → ∀ k, u.ownBlock = some k → (Value.slice a l.length cap).ownBlock ≠ some k
  dis : ∀ (i j : Nat) (u v : Value), xs[i]? = some u → xs[j]? = some v → ∀ k, u.ownBlock = some k → v.ownBlock = some k → i = j
theorem SysO.nil (B : Nat) (w : World) : SysO B w none 0 [] [] := ⟨⟨rfl, .inl ⟨rfl, rfl⟩⟩, by simp, by simp, by simp⟩

def CopyEnd (B : Nat) (l : Lts) (w' : World) (e : Ending) : Prop := ∃ a' cp xs, e = .returned (.agg #[.slice a' l.length cp]) ∧ SysO B w' a' cp l xs

/-! ### steps of drawn regions: appends -/
theorem step_app_arc {w : World} {ops : Array Oper} {o : Oper} {a : Act} {K : Act → World → Prop} {Q : Exit → Act → World → Prop} {E : Prop} (hgd : o.guard = none) (s x : Operand)
    (ho : o.op = .call { callee := .builtin .append, args := #[s, x], argTypes := #[63, 63] })
    (B n N : Nat) (v : Value) (row : List Arc) (hs : a.eval s = v) (hown : OwnR B w v row) (hn : row.length = n) (ad : Addr) (m c : Nat) (r2 : List Arc) (hx : a.eval x = .slice (some ad) m c) (hm : r2.length = m) (hm0 : 0 < m)
    (hnews : ∀ (j : Nat) (u : Value), (flatA r2)[j]? = some u → w.cell? (ad.add j) = some u) (hN : n + m = N) (hb : N ≤ 4000000) (hB : B ≤ w.heap.size) (H : Nat) (hH : w.heap.size = H)
    (h : ∀ g cp w', OwnR B w' (.slice (some ⟨g, 0, none⟩) N cp) (row ++ r2) → (∀ fp (w0 : World), (∀ k, v.ownBlock = some k → k ∈ fp ∨ w0.heap.size ≤ k) → Frm fp w0 w → Frm fp w0 w') → (v.ownBlock = some g ∨ g = H) → g < w'.heap.size → K (a.put o.dst (.slice (some ⟨g, 0, none⟩) N cp)) w') :
    if Region.wanted o (yielded ops a.tmps) = true then Oper.wp Tryz.prog o a w K Q else E := by
  obtain ⟨i0, hi, hz0, hz1, hz2⟩ := info_parts infoArc
  subst hm hn hN
  refine step_append_lies w hgd s x 63 ho B 66 i0 (.agg #[.int .i64 0, .int .i64 0]) 2 16 Tryz.underlying63 hi hz0 hz1 hz2 rfl (by decide) v row.length (flatA row) hs hown ad r2.length c (flatA r2) hx (flatA_len r2) hnews (flatA_one r2) hm0 (by unfold maxLen; omega) (by omega) hB H hH ?_
  intro g cp w' hown' hgr h4 h5
  refine h g cp w' ?_ (fun fp w0 hk hF => hF.grown hgr hk) h4 h5
  have : (row ++ r2).length = row.length + r2.length := List.length_append
  unfold OwnR
  rw [this, flatA_app]
  exact hown'

theorem step_app_rowG {w : World} {ops : Array Oper} {o : Oper} {a : Act} {K : Act → World → Prop} {Q : Exit → Act → World → Prop} {E : Prop} (hgd : o.guard = none) (s x : Operand)
    (ho : o.op = .call { callee := .builtin .append, args := #[s, x], argTypes := #[23, 23] })
    (B n : Nat) (v : Value) (xs : List Value) (hs : a.eval s = v) (hown : w.ownsRow B 63 1 v n xs) (ad : Addr) (c : Nat) (u : Value) (hx : a.eval x = .slice (some ad) 1 c) (hu : u.oneCell' = true)
    (hnews : w.cell? (ad.add 0) = some u) (hb : n + 1 ≤ 4000000) (hB : B ≤ w.heap.size) (H : Nat) (hH : w.heap.size = H)
    (h : ∀ g cp w', w'.ownsRow B 63 1 (.slice (some ⟨g, 0, none⟩) (n + 1) cp) (n + 1) (xs ++ [u]) → (∀ fp (w0 : World), (∀ k, v.ownBlock = some k → k ∈ fp ∨ w0.heap.size ≤ k) → Frm fp w0 w → Frm fp w0 w') → (v.ownBlock = some g ∨ g = H) → g < w'.heap.size → K (a.put o.dst (.slice (some ⟨g, 0, none⟩) (n + 1) cp)) w') :
    if Region.wanted o (yielded ops a.tmps) = true then Oper.wp Tryz.prog o a w K Q else E := by
  obtain ⟨i0, hi, hz0, hz1, hz2⟩ := info_parts infoRow
  refine step_append_lies w hgd s x 23 ho B 63 i0 (.slice none 0 0) 1 24 Tryz.underlying23 hi hz0 hz1 hz2 rfl (by decide) v n xs hs hown ad 1 c [u] hx rfl ?_ ?_ (by decide) (by unfold maxLen; omega) (by omega) hB H hH ?_
  · intro j u' hj
    cases j with
    | zero => simp at hj; rw [← hj]; exact hnews
    | succ j => simp at hj
  · intro u' hu'
    rw [List.mem_singleton] at hu'
    rw [hu']; exact hu
  · intro g cp w' hown' hgr h4 h5
    exact h g cp w' hown' (fun fp w0 hk hF => hF.grown hgr hk) h4 h5

theorem step_app_nil {w : World} {ops : Array Oper} {o : Oper} {a : Act} {K : Act → World → Prop} {Q : Exit → Act → World → Prop} {E : Prop} (hgd : o.guard = none) (s x : Operand)
    (ho : o.op = .call { callee := .builtin .append, args := #[s, x], argTypes := #[63, 63] })
    (B : Nat) (v : Value) (row : List Arc) (hs : a.eval s = v) (hown : OwnR B w v row) (hx : a.eval x = .slice none 0 0) (h : K (a.put o.dst v) w) :
    if Region.wanted o (yielded ops a.tmps) = true then Oper.wp Tryz.prog o a w K Q else E := by
  obtain ⟨i0, hi, hz0, hz1, hz2⟩ := info_parts infoArc
  have hw : Region.wanted o (yielded ops a.tmps) = true := by simp [Region.wanted, hgd]
  rw [if_pos hw]
  have hrun := run_append_owned_none (P := Tryz.prog) (w := w) B 63 o.type 66 i0 2 Tryz.underlying63 hi v row.length (flatA row) hown
  unfold Oper.wp
  simp [execOp, ho, resolve, invoke, builtin, hs, hx, hrun, Result.andThen]
  exact h

theorem RowR.src {B : Nat} {w : World} {a : Addr} {cap : Nat} {row : List Arc} (h : RowR B w (some a) cap row) : ∀ (j : Nat) (u : Value), (flatA row)[j]? = some u → w.cell? (a.add j) = some u := by
  intro j u hu
  have hj : j < row.length * 2 := by rw [← flatA_len]; exact (List.getElem?_eq_some_iff.1 hu).1
  obtain ⟨⟨e, t⟩, hy⟩ : ∃ y, row[j / 2]? = some y := ⟨_, List.getElem?_eq_getElem (by omega)⟩
  obtain ⟨b, o, ha, _, c1, c2⟩ := h.2.2.2 (j / 2) e t hy
  cases ha
  rw [Addr.add_lit]
  have hg := flatA_get row (j / 2) e t hy
  rcases Nat.mod_two_eq_zero_or_one j with h0 | h0
  · have hj2 : j = j / 2 * 2 := by omega
    rw [hj2, hg.1] at hu
    cases hu
    rw [hj2]
    simpa using c1
  · have hj2 : j = j / 2 * 2 + 1 := by omega
    rw [hj2, hg.2] at hu
    cases hu
    rw [hj2]
    simpa [Nat.add_assoc] using c2

theorem step_app_src {w : World} {ops : Array Oper} {o : Oper} {a : Act} {K : Act → World → Prop} {Q : Exit → Act → World → Prop} {E : Prop} (hgd : o.guard = none) (s x : Operand)
    (ho : o.op = .call { callee := .builtin .append, args := #[s, x], argTypes := #[63, 63] })
    (B g0 : Nat) (hs : a.eval s = .slice (some ⟨g0, 0, none⟩) 0 0) (hown : OwnR B w (.slice (some ⟨g0, 0, none⟩) 0 0) []) (ra : Option Addr) (rc : Nat) (row : List Arc) (hx : a.eval x = .slice ra row.length rc)
    (hz : row = [] → ra = none ∧ rc = 0) (C : Nat) (hr : OwnR C w (.slice ra row.length rc) row) (hb : row.length ≤ 4000000) (hB : B ≤ w.heap.size) (H : Nat) (hH : w.heap.size = H)
    (h : ∀ g cp w', OwnR B w' (.slice (some ⟨g, 0, none⟩) row.length cp) row → (∀ fp (w0 : World), g0 ∈ fp ∨ w0.heap.size ≤ g0 → Frm fp w0 w → Frm fp w0 w') → (g = g0 ∨ g = H) → g < w'.heap.size → K (a.put o.dst (.slice (some ⟨g, 0, none⟩) row.length cp)) w') :
    if Region.wanted o (yielded ops a.tmps) = true then Oper.wp Tryz.prog o a w K Q else E := by
  by_cases h0 : row = []
  · subst h0
    obtain ⟨rfl, rfl⟩ := hz rfl
    refine step_app_nil hgd s x ho B _ [] hs hown hx (h g0 0 w hown (fun _ _ _ hF => hF) (.inl rfl) ?_)
    exact (hown.lt g0 rfl).2
  · have hpos : 0 < row.length := List.length_pos_iff.2 h0
    obtain ⟨g1, cp1, hs1, _⟩ := owns_some (ownsB_mono hr (Nat.zero_le _)) hpos
    obtain ⟨rfl, rfl⟩ : ra = some ⟨g1, 0, none⟩ ∧ rc = cp1 := by simpa using hs1
    have hrr := rowR_of_own (ownsB_mono hr (Nat.zero_le _)) (Nat.le_refl _) (by omega)
    refine step_app_arc hgd s x ho B 0 row.length _ [] hs hown rfl ⟨g1, 0, none⟩ row.length rc row hx rfl hpos (RowR.src hrr) (Nat.zero_add _) hb hB H hH ?_
    intro g cp w' hown' hfr hg hlt
    refine h g cp w' hown' (fun fp w0 hk hF => hfr fp w0 (fun k hk' => ?_) hF) ?_ hlt
    · simp only [Value.ownBlock, Option.some.injEq] at hk'
      subst hk'
      exact hk
    · rcases hg with hg | hg
      · simp only [Value.ownBlock, Option.some.injEq] at hg
        exact .inl hg.symm
      · exact .inr hg

theorem OwnR.blk {B : Nat} {w : World} {v : Value} {row : List Arc} (h : OwnR B w v row) {k : Nat} (hk : v.ownBlock = some k) : k < w.heap.size := (h.lt k hk).2

theorem SysO.frm {B : Nat} {fp : List Nat} {w w' : World} {a : Option Addr} {cap : Nat} {l : Lts} {xs : List Value} (h : SysO B w a cap l xs) (hf : Frm fp w w') (hn : ∀ q ∈ fp, q < B) : SysO B w' a cap l xs :=
  ⟨ownsB_frm h.out hf (fun k hk hm => by have := (h.out.lt k hk).1; have := hn k hm; omega), fun i row hi => by
    obtain ⟨ra, rc, h1, h2⟩ := h.row i row hi
    exact ⟨ra, rc, h1, ownsB_frm h2 hf (fun k hk hm => by have := (h2.lt k hk).1; have := hn k hm; omega)⟩, h.sep, h.dis⟩
theorem SysO.mono {B C : Nat} {w : World} {a : Option Addr} {cap : Nat} {l : Lts} {xs : List Value} (h : SysO B w a cap l xs) (hc : C ≤ B) : SysO C w a cap l xs :=
  ⟨ownsB_mono h.out hc, fun i row hi => by
    obtain ⟨ra, rc, h1, h2⟩ := h.row i row hi
    exact ⟨ra, rc, h1, ownsB_mono h2 hc⟩, h.sep, h.dis⟩

theorem SysO.snoc {B : Nat} {w w' : World} {a' : Option Addr} {k cp : Nat} {l : Lts} {xs : List Value} {row : List Arc} {g8 cp8 g10 cp10 : Nat} (hs : SysO B w a' cp (l.take k) xs) (hk : l[k]? = some row) (h8 : w.heap.size ≤ g8)
    (hrow8 : OwnR B w' (.slice (some ⟨g8, 0, none⟩) row.length cp8) row) (hout : w'.ownsRow B 63 1 (.slice (some ⟨g10, 0, none⟩) (k + 1) cp10) (k + 1) (xs ++ [.slice (some ⟨g8, 0, none⟩) row.length cp8]))
    (hf : Frm ((Value.slice a' k cp).ownBlock.toList) w w') (hg : (Value.slice a' k cp).ownBlock = some g10 ∨ (w.heap.size ≤ g10 ∧ g10 ≠ g8)) :
    SysO B w' (some ⟨g10, 0, none⟩) cp10 (l.take (k + 1)) (xs ++ [.slice (some ⟨g8, 0, none⟩) row.length cp8]) := by
  have hkl : k < l.length := (List.getElem?_eq_some_iff.1 hk).1
  have hlen : (l.take (k + 1)).length = k + 1 := by rw [List.length_take]; omega
  have hlen0 : (l.take k).length = k := by rw [List.length_take]; omega
  have hxl : xs.length = k := by have := hs.out.1; rw [hlen0] at this; omega
  have hblk : (Value.slice a' (l.take k).length cp).ownBlock = (Value.slice a' k cp).ownBlock := by rw [hlen0]
  have hob : ∀ q, (Value.slice a' k cp).ownBlock = some q → q < w.heap.size := fun q hq => by
    have := hs.out.lt q (by rw [hblk]; exact hq)
    exact this.2
  have hold : ∀ (i : Nat) (u : Value), xs[i]? = some u → ∀ q, u.ownBlock = some q → q < w.heap.size := fun i u hu q hq => by
    have hi : i < k := by have := (List.getElem?_eq_some_iff.1 hu).1; omega
    obtain ⟨r, hr⟩ : ∃ r, (l.take k)[i]? = some r := ⟨_, List.getElem?_eq_getElem (by omega)⟩
    obtain ⟨ra, rc, h1, h2⟩ := hs.row i r hr
    rw [hu] at h1
    cases h1
    exact h2.blk hq
  have hget : ∀ (i : Nat) (u : Value), (xs ++ [Value.slice (some ⟨g8, 0, none⟩) row.length cp8])[i]? = some u → (i < k ∧ xs[i]? = some u) ∨ (i = k ∧ u = .slice (some ⟨g8, 0, none⟩) row.length cp8) := fun i u hu => by
    rcases Nat.lt_or_ge i k with h1 | h1
    · rw [List.getElem?_append_left (by omega)] at hu
      exact .inl ⟨h1, hu⟩
    · rw [List.getElem?_append_right (by omega)] at hu
      have h2 : i - xs.length = 0 := by
        rcases Nat.eq_zero_or_pos (i - xs.length) with h3 | h3
        · exact h3
        · rw [List.getElem?_eq_none (by simp; omega)] at hu; cases hu
      rw [h2] at hu
      simp at hu
      exact .inr ⟨by omega, hu.symm⟩
  refine ⟨by rw [hlen]; exact hout, fun i r hr => ?_, fun i u hu q hq => ?_, fun i j u v hu hv q hq hq' => ?_⟩
  · rcases Nat.lt_or_ge i k with h1 | h1
    · rw [List.getElem?_take_of_lt (by omega)] at hr
      obtain ⟨ra, rc, h2, h3⟩ := hs.row i r (by rw [List.getElem?_take_of_lt h1]; exact hr)
      refine ⟨ra, rc, by rw [List.getElem?_append_left (by omega)]; exact h2, ownsB_frm h3 hf (fun q hq hm => ?_)⟩
      simp only [Option.mem_toList] at hm
      exact hs.sep i _ h2 q hq (by rw [hblk]; exact hm)
    · have h2 : i = k := by
        have := (List.getElem?_eq_some_iff.1 hr).1
        omega
      subst h2
      rw [List.getElem?_take_of_lt (by omega), hk] at hr
      cases hr
      exact ⟨g8, cp8, by rw [List.getElem?_append_right (by omega), hxl, Nat.sub_self]; rfl, hrow8⟩
  · simp only [Value.ownBlock, Option.some.injEq, ne_eq]
    rintro rfl
    rcases hget i u hu with ⟨h1, h2⟩ | ⟨h1, rfl⟩
    · have h3 := hold i u h2 _ hq
      rcases hg with hg | ⟨hg, _⟩
      · exact hs.sep i u h2 _ hq (by rw [hblk]; exact hg)
      · omega
    · simp only [Value.ownBlock, Option.some.injEq] at hq
      subst hq
      rcases hg with hg | ⟨_, hg⟩
      · have := hob _ hg; omega
      · exact hg rfl
  · rcases hget i u hu with ⟨h1, h2⟩ | ⟨h1, rfl⟩
    · rcases hget j v hv with ⟨h3, h4⟩ | ⟨h3, rfl⟩
      · exact hs.dis i j u v h2 h4 q hq hq'
      · simp only [Value.ownBlock, Option.some.injEq] at hq'
        have := hold i u h2 q hq
        omega
    · simp only [Value.ownBlock, Option.some.injEq] at hq
      rcases hget j v hv with ⟨h3, h4⟩ | ⟨h3, rfl⟩
      · have := hold j v h4 q hq'
        omega
      · omega

set_option linter.unusedSimpArgs false in
set_option maxRecDepth 100000 in
set_option maxHeartbeats 2000000 in
theorem copy_any (g : Nat) (l : Lts) (w : World) (h : MAt g w l) (hl1 : l.length ≤ 100000) (hl2 : ∀ row ∈ l, row.length ≤ 1000000) :
    Calls Tryz.prog 39 #[.agg #[.slice (some ⟨g, 0, none⟩) l.length l.length]] w fun e w' => CopyEnd w.heap.size l w' e ∧ Frm [] w w' := by
  have f1 : Frm [] w (w.alloc (.cells #[.slice (some ⟨g, 0, none⟩) l.length l.length] 25)) := (Frm.refl [] w).alloc _
  have f2 := f1.alloc (.cells #[.slice none 0 0] 25)
  have f3 := f2.alloc (.cells #[.slice none 0 0] 25)
  have hbox := (((box1 w (.slice (some ⟨g, 0, none⟩) l.length l.length) 25).alloc (.cells #[.slice none 0 0] 25)).alloc (.cells #[.slice none 0 0] 25)).cell (i := 0) rfl
  have hres := ((box1 (w.alloc (.cells #[.slice (some ⟨g, 0, none⟩) l.length l.length] 25)) (.slice none 0 0) 25).alloc (.cells #[.slice none 0 0] 25))
  have hq := box1 ((w.alloc (.cells #[.slice (some ⟨g, 0, none⟩) l.length l.length] 25)).alloc (.cells #[.slice none 0 0] 25)) (.slice none 0 0) 25
  simp only [World.alloc, Array.size_push] at hres hq
  have H := Lib.hid h
  have HB := Lib.hid hbox
  have HRES := Lib.hid hres
  have HQ := Lib.hid hq
  have HF3 := Lib.hid f3
  have hgl := h.lt
  have i9 : (l.length : Int) ≤ 100000 := by omega
  clear h f1 f2 f3 hbox hres hq
  go_enter Tryz.func39, Tryz.ntmps39
  go_wp2_with fail
  go_loopg [4] l.length (fun q i wr => ∃ (k : Nat) (a' : Option Addr) (cp : Nat) (xs : List Value), q = l.length - k ∧ k ≤ l.length ∧ i = .int .i64 k ∧ RowAt wr (w.heap.size + 1 + 1) 25 [.slice a' k cp] ∧ SysO (w.heap.size + 3) wr a' cp (l.take k) xs ∧ Frm [w.heap.size + 1 + 1] (((w.alloc (.cells #[.slice (some ⟨g, 0, none⟩) l.length l.length] 25)).alloc (.cells #[.slice none 0 0] 25)).alloc (.cells #[.slice none 0 0] 25)) wr)
  case atStart => exact ⟨0, none, 0, [], rfl, Nat.zero_le _, rfl, HQ.out, SysO.nil _ _, Frm.refl _ _⟩
  case round =>
    obtain ⟨k, a', cp, xs, rfl, hk, rfl, hqr, hsys, hF⟩ := hrel
    have hqc := hqr.cell (i := 0) rfl
    have hqz := hqr.frozen 0
    have HQR := Lib.hid hqr
    have HQZ := Lib.hid hqz
    have i4 : (0 : Int) ≤ (k : Int) := by omega
    have i5 : (k : Int) ≤ 100000 := by omega
    have hb := hF.cell HB.out (by simp; omega)
    have HF := Lib.hid hF
    have HFW := Lib.hid ((HF3.out.mono (fq := [w.heap.size + 1 + 1]) (by simp)).trans hF (by simp))
    have hsz := hF.size
    simp only [World.alloc, Array.size_push] at hsz
    have HSYS := Lib.hid hsys
    clear hF hsys hqr hqz
    by_cases hlt : k < l.length
    · have i6 : (k : Int) < (l.length : Int) := by omega
      obtain ⟨row, hrow⟩ : ∃ row, l[k]? = some row := ⟨_, List.getElem?_eq_getElem hlt⟩
      have hrl := hl2 row (List.mem_of_getElem? hrow)
      obtain ⟨ra, rc, hc0, hown, hz⟩ := H.out.cell hrow
      have hc := HFW.out.cell hc0 (by simp; omega)
      have HC := Lib.hid hc
      have HQC := Lib.hid hqc
      have HBB := Lib.hid hb
      have HOWN := Lib.hid hown
      have HROW := Lib.hid hrow
      have HZ := Lib.hid hz
      clear hown hz hc0 hrow
      go_wp2_with fail
      have hwrap : IntKind.i64.wrap (k : Int) = (k : Int) := IntWalk.i64_in _ (by omega)
      refine' wp_region_last (L := 12) _ (fun w' => w'.cell? ⟨w.heap.size + 1 + 1, 0, none⟩ = some (.slice a' k cp) ∧ w'.cell? ⟨w.heap.size, 0, none⟩ = some (.slice (some ⟨g, 0, none⟩) l.length l.length) ∧ w'.cell? ⟨g, k, none⟩ = some (.slice ra row.length rc)) (by kernel_rfl) rfl rfl rfl rfl ?he (by kernel_rfl) (by kernel_rfl) ?hS ?h
      case he =>
        simp only [nopOf, List.getElem_toArray, List.getElem_cons_succ, List.getElem_cons_zero, List.setIfInBounds_toArray, List.set_cons_succ, List.set_cons_zero]
        rfl
      case hS => exact ⟨HQC.out, HBB.out, HC.out⟩
      intro hHeld
      clear hc hqc hb
      refine wpAnyH_take (i := 0) (v := ?_) rfl (by kernel_rfl) (by kernel_rfl) (by kernel_rfl) (fun _ _ _ h => h) (Or.inl ⟨by rfl, ?_⟩) (by assumption) ?_
      rotate_left
      · intro w9 hS9
        try dsimp only at hS9
        go_split_ands
        go_simp
        try with_reducible rfl
      try simp only [Act.put, List.getElem_toArray, List.getElem_cons_succ, List.getElem_cons_zero, List.setIfInBounds_toArray, List.set_cons_zero, List.set_cons_succ]
      refine wpAnyH_take (i := 1) (v := ?_) rfl (by kernel_rfl) (by kernel_rfl) (by kernel_rfl) (fun _ _ _ h => h) (Or.inl ⟨by rfl, ?_⟩) (by assumption) ?_
      rotate_left
      · intro w9 hS9
        try dsimp only at hS9
        go_split_ands
        go_simp
        try with_reducible rfl
      try simp only [Act.put, List.getElem_toArray, List.getElem_cons_succ, List.getElem_cons_zero, List.setIfInBounds_toArray, List.set_cons_zero, List.set_cons_succ]
      refine wpAnyH_take (i := 3) (v := ?_) rfl (by kernel_rfl) (by kernel_rfl) (by kernel_rfl) (fun _ _ _ h => h) (Or.inl ⟨by rfl, ?_⟩) (by assumption) ?_
      rotate_left
      · intro w9 hS9
        try dsimp only at hS9
        go_split_ands
        go_simp
        try with_reducible rfl
      try simp only [Act.put, List.getElem_toArray, List.getElem_cons_succ, List.getElem_cons_zero, List.setIfInBounds_toArray, List.set_cons_zero, List.set_cons_succ]
      refine wpAnyH_take (i := 4) (v := ?_) rfl (by kernel_rfl) (by kernel_rfl) (by kernel_rfl) (fun _ _ _ h => h) (Or.inl ⟨by rfl, ?_⟩) (by assumption) ?_
      rotate_left
      · intro w9 hS9
        try dsimp only at hS9
        go_split_ands
        go_simp
        try with_reducible rfl
      try simp only [Act.put, List.getElem_toArray, List.getElem_cons_succ, List.getElem_cons_zero, List.setIfInBounds_toArray, List.set_cons_zero, List.set_cons_succ]
      refine wpAnyH_take (i := 5) (v := ?_) rfl (by kernel_rfl) (by kernel_rfl) (by kernel_rfl) (fun _ _ _ h => h) (Or.inl ⟨by rfl, ?_⟩) (by assumption) ?_
      rotate_left
      · intro w9 hS9
        try dsimp only at hS9
        go_split_ands
        go_simp
        try with_reducible rfl
      try simp only [Act.put, List.getElem_toArray, List.getElem_cons_succ, List.getElem_cons_zero, List.setIfInBounds_toArray, List.set_cons_zero, List.set_cons_succ]
      refine wpAnyH_take (i := 6) (v := ?_) rfl (by kernel_rfl) (by kernel_rfl) (by kernel_rfl) (fun _ _ _ h => h) (Or.inl ⟨by rfl, ?_⟩) (by assumption) ?_
      rotate_left
      · intro w9 hS9
        try dsimp only at hS9
        go_split_ands
        go_simp
        try with_reducible rfl
      try simp only [Act.put, List.getElem_toArray, List.getElem_cons_succ, List.getElem_cons_zero, List.setIfInBounds_toArray, List.set_cons_zero, List.set_cons_succ]
      refine wpAnyH_take (i := 7) (v := ?_) rfl (by kernel_rfl) (by kernel_rfl) (by kernel_rfl) (fun _ _ _ h => h) (Or.inl ⟨by rfl, ?_⟩) (by assumption) ?_
      rotate_left
      · intro w9 hS9
        try dsimp only at hS9
        go_split_ands
        go_simp
        try with_reducible rfl
      try simp only [Act.put, List.getElem_toArray, List.getElem_cons_succ, List.getElem_cons_zero, List.setIfInBounds_toArray, List.set_cons_zero, List.set_cons_succ]
      refine wpAnyH_ready (rs := [2]) (by kernel_rfl) (by simp) ?_
      refine AllReadyH.cons rfl (fun K hK => ?_) AllReadyH.nil
      go_simp
      have q1 : Frm [] wr (wr.alloc (Obj.cells #[] 66)).drew := ((Frm.refl _ _).alloc _).drew
      have hempty : OwnR wr.heap.size (wr.alloc (Obj.cells #[] 66)).drew (.slice (some ⟨wr.heap.size, 0, none⟩) 0 0) [] := own_empty wr wr.heap.size (Nat.le_refl _)
      have Q1 := Lib.hid q1
      have HEMP := Lib.hid hempty
      clear q1 hempty
      refine hK.out _ _ ?_ (fun hHeld => ?_)
      · exact ⟨(Q1.out).cell HQC.out (by simp), (Q1.out).cell HBB.out (by simp), (Q1.out).cell HC.out (by simp)⟩
      clear hK K
      try simp only [Act.put, List.getElem_toArray, List.getElem_cons_succ, List.getElem_cons_zero, List.setIfInBounds_toArray, List.set_cons_zero, List.set_cons_succ]
      refine wpAnyH_ready (rs := [8]) (by kernel_rfl) (by simp) ?_
      refine AllReadyH.cons rfl (fun K hK => ?_) AllReadyH.nil
      refine step_app_src rfl (.tmp 14) (.tmp 19) rfl wr.heap.size wr.heap.size rfl HEMP.out ra rc row rfl HZ.out (g + 1) (ownsB_frm (ownsB_frm HOWN.out HFW.out (by intro k9 hk9; have := (HOWN.out.lt k9 hk9).2; simp; omega)) Q1.out (by simp)) (by omega) (by simp) (wr.heap.size + 1) (by simp) ?_
      intro g8 cp8 w8 hown8 hf8 hg8 hlt8
      have q8 := hf8 [] wr (.inr (Nat.le_refl _)) Q1.out
      have Q8 := Lib.hid q8
      have HO8 := Lib.hid hown8
      clear hf8 q8 hown8
      refine hK.out _ _ ?_ (fun hHeld => ?_)
      · exact ⟨(Q8.out).cell HQC.out (by simp), (Q8.out).cell HBB.out (by simp), (Q8.out).cell HC.out (by simp)⟩
      clear hK K
      try simp only [Act.put, List.getElem_toArray, List.getElem_cons_succ, List.getElem_cons_zero, List.setIfInBounds_toArray, List.set_cons_zero, List.set_cons_succ]
      refine wpAnyH_ready (rs := [9]) (by kernel_rfl) (by simp) ?_
      refine AllReadyH.cons rfl (fun K hK => ?_) AllReadyH.nil
      go_simp
      have q9 := Q8.out.alloc (.cells #[.slice (some ⟨g8, 0, none⟩) row.length cp8] 63)
      have ho9 := HO8.out.alloc (.cells #[.slice (some ⟨g8, 0, none⟩) row.length cp8] 63)
      have hnew9 : (w8.alloc (.cells #[.slice (some ⟨g8, 0, none⟩) row.length cp8] 63)).cell? ((⟨w8.heap.size, 0, none⟩ : Addr).add 0) = some (.slice (some ⟨g8, 0, none⟩) row.length cp8) := cells_new w8 [.slice (some ⟨g8, 0, none⟩) row.length cp8] 63 0 _ rfl
      have Q9 := Lib.hid q9
      have HO9 := Lib.hid ho9
      have HN9 := Lib.hid hnew9
      clear q9 ho9 hnew9
      refine hK.out _ _ ?_ (fun hHeld => ?_)
      · exact ⟨(Q9.out).cell HQC.out (by simp), (Q9.out).cell HBB.out (by simp), (Q9.out).cell HC.out (by simp)⟩
      clear hK K
      try simp only [Act.put, List.getElem_toArray, List.getElem_cons_succ, List.getElem_cons_zero, List.setIfInBounds_toArray, List.set_cons_zero, List.set_cons_succ]
      refine wpAnyH_ready (rs := [10]) (by kernel_rfl) (by simp) ?_
      refine AllReadyH.cons rfl (fun K hK => ?_) AllReadyH.nil
      have hout9 := ownsB_frm HSYS.out.out Q9.out (by simp)
      have hlen9 : (l.take k).length = k := by rw [List.length_take]; omega
      rw [hlen9] at hout9
      have hs8 := Q8.out.size
      refine step_app_rowG rfl (.tmp 13) (.tmp 21) rfl (w.heap.size + 3) k (.slice a' k cp) xs rfl hout9 ⟨w8.heap.size, 0, none⟩ 1 (.slice (some ⟨g8, 0, none⟩) row.length cp8) rfl rfl HN9.out (by omega) (by simp; omega) (w8.heap.size + 1) (by simp) ?_
      intro g10 cp10 w10 hown10 hf10 hg10 hlt10
      have q10 := hf10 ((Value.slice a' k cp).ownBlock.toList) wr (by intro k9 hk9; left; simp [hk9]) (Q9.out.mono (by simp))
      have hrow10 := ownsB_frm HO9.out (hf10 ((Value.slice a' k cp).ownBlock.toList) _ (by intro k9 hk9; left; simp [hk9]) (Frm.refl _ _)) (by
        intro q hq hm
        simp only [Value.ownBlock, Option.some.injEq] at hq
        subst hq
        simp only [Option.mem_toList, Option.mem_def] at hm
        have := (hout9.lt _ hm).2
        have := (HSYS.out.out.lt _ (by rw [hlen9]; exact hm)).2
        rcases hg8 with h9 | h9 <;> omega)
      have hsn := SysO.snoc HSYS.out HROW.out (by rcases hg8 with h9 | h9 <;> omega) (ownsB_mono hrow10 (by omega)) hown10 q10 (by rcases hg10 with h9 | h9; exact .inl h9; exact .inr (by omega))
      have hnb : ∀ q ∈ (Value.slice a' k cp).ownBlock.toList, w.heap.size + 3 ≤ q := by
        intro q hq
        simp only [Option.mem_toList, Option.mem_def] at hq
        exact (hout9.lt _ hq).1
      have HSN := Lib.hid hsn
      have Q10 := Lib.hid q10
      have HNB := Lib.hid hnb
      have c10 := q10.cell HQC.out (fun hm => by have := hnb _ hm; simp at this; omega)
      have C10 := Lib.hid c10
      clear hsn q10 hnb hf10 hown10 hrow10 hout9
      refine hK.out _ _ ?_ (fun hHeld => ?_)
      · exact ⟨Q10.out.cell HQC.out (fun hm => by have := HNB.out _ hm; simp at this; omega), Q10.out.cell HBB.out (fun hm => by have := HNB.out _ hm; simp at this; omega), Q10.out.cell HC.out (fun hm => by have := HNB.out _ hm; simp at this; omega)⟩
      clear hK K
      try simp only [Act.put, List.getElem_toArray, List.getElem_cons_succ, List.getElem_cons_zero, List.setIfInBounds_toArray, List.set_cons_zero, List.set_cons_succ]
      refine wpAnyH_take (i := 11) (v := ?_) rfl (by kernel_rfl) (by kernel_rfl) (by kernel_rfl) (fun _ _ _ h => h) (Or.inl ⟨by rfl, ?_⟩) (by assumption) ?_
      rotate_left
      · intro w9 hS9
        try dsimp only at hS9
        go_split_ands
        go_simp
        try with_reducible rfl
      try simp only [Act.put, List.getElem_toArray, List.getElem_cons_succ, List.getElem_cons_zero, List.setIfInBounds_toArray, List.set_cons_zero, List.set_cons_succ]
      refine wpAnyH_take (i := 12) (v := ?_) rfl (by kernel_rfl) (by kernel_rfl) (by kernel_rfl) (fun _ _ _ h => h) (Or.inl ⟨by rfl, ?_⟩) (by assumption) ?_
      rotate_left
      · intro w9 hS9
        try dsimp only at hS9
        go_split_ands
        go_simp
        try with_reducible rfl
      try simp only [Act.put, List.getElem_toArray, List.getElem_cons_succ, List.getElem_cons_zero, List.setIfInBounds_toArray, List.set_cons_zero, List.set_cons_succ]
      refine wpAnyH_done (by kernel_rfl) ?_ _
      refine Qt.last rfl rfl ?_
      simp only [List.getElem_toArray, List.getElem_cons_succ, List.getElem_cons_zero]
      have z10 : w10.frozen? ⟨w.heap.size + 1 + 1, 0, none⟩ = false := Q10.out.frz HQC.out HQZ.out (fun hm => by have := HNB.out _ hm; simp at this; omega)
      go_simp
      go_wp2_with fail
      go_roundg (l.length - (k + 1))
      case rel =>
        have hset : Frm [w.heap.size + 1 + 1] w10 (w10.setCell ⟨w.heap.size + 1 + 1, 0, none⟩ (.slice (some ⟨g10, 0, none⟩) (k + 1) cp10)) := (Frm.refl _ _).setCell (.inl (by simp)) _
        have hqn : RowAt w10 (w.heap.size + 1 + 1) 25 [.slice a' k cp] := HQR.out.frm Q10.out (fun hm => by have := HNB.out _ hm; omega)
        exact ⟨k + 1, some ⟨g10, 0, none⟩, cp10, _, rfl, by omega, by go_num, hqn.setCell 0 _, HSN.out.frm hset (by simp), (HF.out.trans Q10.out (fun x hx => .inr (by have := HNB.out _ hx; simp; omega))).trans hset (by simp)⟩
      case measure => omega
    · have i6 : ¬ (k : Int) < (l.length : Int) := by omega
      have hkl : k = l.length := by omega
      have hresc := HF.out.cell (HRES.out.cell (i := 0) rfl) (by simp)
      have hresz := HF.out.frz (HRES.out.cell (i := 0) rfl) (HRES.out.frozen 0) (by simp)
      have hs9 : SysO (w.heap.size + 3) wr a' cp l xs := by have := HSYS.out; rw [hkl, List.take_length] at this; exact this
      have HS9 := Lib.hid hs9
      have HKL := Lib.hid hkl
      clear hs9 hkl
      go_wp2_with fail
      have hcs := World.cell?_setCell_same' wr ⟨w.heap.size + 1, 0, none⟩ (.slice a' k cp) (by rw [hresc]; rfl)
      refine bodyPost_ret (v := .agg #[.slice a' k cp]) (by simp [results, Tryz.results39, go_sem]; rw [hcs]; rfl) rfl ?_
      have hset : Frm [w.heap.size + 1] wr (wr.setCell ⟨w.heap.size + 1, 0, none⟩ (.slice a' k cp)) := (Frm.refl _ _).setCell (.inl (by simp)) _
      refine ⟨⟨a', cp, xs, by rw [HKL.out], (HS9.out.frm hset (by simp)).mono (by omega)⟩, ?_⟩
      have := (HFW.out.mono (fq := [w.heap.size + 1 + 1, w.heap.size + 1]) (by simp)).trans hset (by simp)
      exact ⟨this.os, this.tape, this.output, this.size, fun q hq _ => this.block q hq (by simp; omega)⟩

end Go.Proofs.YtikpcipkkhmcfaaGreat

/- Systems that Copy has made: a row put anew; appends of rows of arcs as steps of drawn regions. Plain beside the program's numbers. -/
namespace Go.Proofs.YtikpcipkkhmcfaaGreat
open Go.RowKit

theorem step_app_arcs {w : World} {ops : Array Oper} {o : Oper} {a : Act} {K : Act → World → Prop} {Q : Exit → Act → World → Prop} {E : Prop} (hgd : o.guard = none) (s x : Operand)
    (ho : o.op = .call { callee := .builtin .append, args := #[s, x], argTypes := #[63, 63] })
    (B n N : Nat) (v : Value) (row : List Arc) (hs : a.eval s = v) (hown : OwnR B w v row) (hn : row.length = n) (ad : Addr) (m c : Nat) (r2 : List Arc) (hx : a.eval x = .slice (some ad) m c) (hm : r2.length = m)
    (hnews : ∀ (j : Nat) (u : Value), (flatA r2)[j]? = some u → w.cell? (ad.add j) = some u) (hN : n + m = N) (hb : N ≤ 4000000) (hB : B ≤ w.heap.size) (hv : v ≠ .slice none 0 0) (H : Nat) (hH : w.heap.size = H)
    (h : ∀ g cp w', OwnR B w' (.slice (some ⟨g, 0, none⟩) N cp) (row ++ r2) → (∀ fp (w0 : World), (∀ k, v.ownBlock = some k → k ∈ fp ∨ w0.heap.size ≤ k) → Frm fp w0 w → Frm fp w0 w') → (v.ownBlock = some g ∨ g = H) → g < w'.heap.size → K (a.put o.dst (.slice (some ⟨g, 0, none⟩) N cp)) w') :
    if Region.wanted o (yielded ops a.tmps) = true then Oper.wp Tryz.prog o a w K Q else E := by
  obtain ⟨i0, hi, hz0, hz1, hz2⟩ := info_parts infoArc
  subst hm hn hN
  have hw : Region.wanted o (yielded ops a.tmps) = true := by simp [Region.wanted, hgd]
  rw [if_pos hw]
  obtain ⟨v', w', hr, h2, h3, h4, h5⟩ := run_append_own_at (P := Tryz.prog) w B 63 o.type 66 i0 (.agg #[.int .i64 0, .int .i64 0]) 2 16 Tryz.underlying63 hi hz0 hz1 hz2 rfl (by decide) v row.length (flatA row) hown ad r2.length c (flatA r2) (flatA_len r2) hnews (flatA_one r2) (by unfold maxLen; omega) (by omega) hB
  unfold Oper.wp execOp
  simp only [ho, resolve, invoke, builtin, Sem.run_bind, Sem.run_pure, Result.andThen_ok, List.map_toArray, List.map_cons, List.map_nil, hs, hx, hr]
  obtain ⟨g, cp, rfl, hlt⟩ : ∃ g cp, v' = .slice (some (⟨g, 0, none⟩ : Addr)) (row.length + r2.length) cp ∧ g < w'.heap.size := by
    rcases h2.2 with ⟨h6, _⟩ | ⟨g, cp, cur, h6, _, hg, _⟩
    · exact absurd (h4.1 h6).1 hv
    · exact ⟨g, cp, h6, (Array.getElem?_eq_some_iff.1 hg).1⟩
  refine h g cp w' ?_ (fun fp w0 hk hF => hF.grown h3 hk) ?_ hlt
  · have : (row ++ r2).length = row.length + r2.length := List.length_append
    unfold OwnR
    rw [this, flatA_app]
    exact h2
  · rcases h5 with h5 | h5
    · exact .inl (by rw [← h5]; rfl)
    · right
      have : g = w.heap.size := by simpa [Value.ownBlock] using h5
      rw [this, hH]

theorem owns_drew {B : Nat} {w : World} {e size n : Nat} {v : Value} {xs : List Value} (h : w.ownsRow B e size v n xs) : w.drew.ownsRow B e size v n xs := h

theorem ownsB_setCellG {w : World} {B : Nat} {e : TypeId} {size : Nat} {v : Value} {n : Nat} {xs : List Value} {g : Nat} (h : w.ownsRow B e size v n xs) (hg : v.ownBlock = some g) (i : Nat) (u : Value) :
    (w.setCell ⟨g, i, none⟩ u).ownsRow B e size v n (xs.set i u) := by
  refine ⟨by rw [List.length_set]; exact h.1, ?_⟩
  rcases h.2 with ⟨rfl, _⟩ | ⟨g', cap, cur, rfl, h0, hgg, h1, h2, h3, h4⟩
  · simp [Value.ownBlock] at hg
  · simp [Value.ownBlock] at hg
    subst hg
    refine .inr ⟨g', cap, cur.setIfInBounds i u, rfl, h0, by simp [World.setCell, Array.getElem?_modify, hgg], h1, h2, by simpa using h3, ?_⟩
    rw [Array.toList_setIfInBounds, List.take_set, h4]

theorem SysO.put {B : Nat} {w w' : World} {go cp : Nat} {l : Lts} {xs : List Value} {s : Nat} {row row' : List Arc} {g rc g9 cp9 : Nat} (hs : SysO B w (some ⟨go, 0, none⟩) cp l xs) (hrow : l[s]? = some row)
    (hx : xs[s]? = some (.slice (some ⟨g, 0, none⟩) row.length rc)) (hown : OwnR B w' (.slice (some ⟨g9, 0, none⟩) row'.length cp9) row') (hf : Frm [g] w w') (hg : g9 = g ∨ w.heap.size ≤ g9) :
    SysO B (w'.setCell ⟨go, s, none⟩ (.slice (some ⟨g9, 0, none⟩) row'.length cp9)) (some ⟨go, 0, none⟩) cp (l.set s row') (xs.set s (.slice (some ⟨g9, 0, none⟩) row'.length cp9)) := by
  have hsl : s < l.length := (List.getElem?_eq_some_iff.1 hrow).1
  have hgo : go < w.heap.size := (hs.out.lt go rfl).2
  have hne : go ≠ g := fun e => hs.sep s _ hx g rfl (by rw [← e]; rfl)
  have hxl : xs.length = l.length := by have := hs.out.1; omega
  have hold : ∀ (i : Nat) (u : Value), xs[i]? = some u → ∀ q, u.ownBlock = some q → q < w.heap.size := fun i u hu q hq => by
    have hi : i < xs.length := (List.getElem?_eq_some_iff.1 hu).1
    obtain ⟨r, hr⟩ : ∃ r, l[i]? = some r := ⟨_, List.getElem?_eq_getElem (by omega)⟩
    obtain ⟨ra, rc, h1, h2⟩ := hs.row i r hr
    rw [hu] at h1
    cases h1
    exact h2.blk hq
  have hneg : go ≠ g9 := by
    rcases hg with rfl | hg
    · exact hne
    · omega
  have hget : ∀ (i : Nat) (u : Value), (xs.set s (Value.slice (some ⟨g9, 0, none⟩) row'.length cp9))[i]? = some u → (i ≠ s ∧ xs[i]? = some u) ∨ (i = s ∧ u = .slice (some ⟨g9, 0, none⟩) row'.length cp9) := fun i u hu => by
    rw [List.getElem?_set] at hu
    split at hu
    · rename_i h1
      subst h1
      split at hu
      · cases hu; exact .inr ⟨rfl, rfl⟩
      · cases hu
    · rename_i h1
      exact .inl ⟨fun e => h1 e.symm, hu⟩
  refine ⟨?_, fun i r hr => ?_, fun i u hu q hq => ?_, fun i j u v hu hv q hq hq' => ?_⟩
  · rw [List.length_set]
    exact ownsB_setCellG (ownsB_frm hs.out hf (fun k hk hm => by
      simp only [Value.ownBlock, Option.some.injEq] at hk
      simp only [List.mem_singleton] at hm
      omega)) rfl s _
  · rw [List.getElem?_set] at hr
    split at hr
    · rename_i h1
      subst h1
      first | cases hr | (rw [if_pos hsl] at hr; cases hr)
      exact ⟨g9, cp9, by rw [List.getElem?_set_self (by omega)], ownsB_frm hown (((Frm.refl [go] _).setCell (.inl (by simp)) _)) (fun k hk hm => by
        simp only [Value.ownBlock, Option.some.injEq] at hk
        simp only [List.mem_singleton] at hm
        omega)⟩
    · rename_i h1
      obtain ⟨ra, rc2, h2, h3⟩ := hs.row i r hr
      refine ⟨ra, rc2, by rw [List.getElem?_set_ne h1]; exact h2, ?_⟩
      refine ownsB_frm (ownsB_frm h3 hf (fun k hk hm => ?_)) (((Frm.refl [go] _).setCell (.inl (by simp)) _)) (fun k hk hm => ?_)
      · simp only [List.mem_singleton] at hm
        subst hm
        exact h1 ((hs.dis i s _ _ h2 hx k hk rfl).symm)
      · simp only [List.mem_singleton] at hm
        subst hm
        exact hs.sep i _ h2 k hk rfl
  · simp only [Value.ownBlock, Option.some.injEq, ne_eq]
    rintro rfl
    rcases hget i u hu with ⟨h1, h2⟩ | ⟨h1, rfl⟩
    · exact hs.sep i u h2 _ hq rfl
    · simp only [Value.ownBlock, Option.some.injEq] at hq
      exact hneg hq.symm
  · rcases hget i u hu with ⟨h1, h2⟩ | ⟨h1, rfl⟩
    · rcases hget j v hv with ⟨h3, h4⟩ | ⟨h3, rfl⟩
      · exact hs.dis i j u v h2 h4 q hq hq'
      · simp only [Value.ownBlock, Option.some.injEq] at hq'
        subst hq'
        rcases hg with rfl | hg
        · exact hs.dis i j u _ h2 (by rw [h3]; exact hx) _ hq rfl
        · have := hold i u h2 _ hq
          omega
    · simp only [Value.ownBlock, Option.some.injEq] at hq
      subst hq
      rcases hget j v hv with ⟨h3, h4⟩ | ⟨h3, rfl⟩
      · rcases hg with rfl | hg
        · exact hs.dis i j _ v (by rw [h1]; exact hx) h4 _ rfl hq'
        · have := hold j v h4 _ hq'
          omega
      · omega

theorem SysO.lat {B : Nat} {w : World} {a : Option Addr} {cap : Nat} {l : Lts} {xs : List Value} (h : SysO B w a cap l xs) (hl : l.length ≤ 140737488355328) (hr : ∀ row ∈ l, row.length ≤ 140737488355328) : LAt w.heap.size w a cap l := by
  have hrd := rd_of_owns h.out (Nat.le_refl _)
  refine ⟨hrd.le, hrd.max, hl, fun i row hi => ?_⟩
  obtain ⟨g, rc, h1, h2⟩ := h.row i row hi
  obtain ⟨b, o, ha, hb, hc⟩ := hrd.cell i _ h1
  exact ⟨b, o, some ⟨g, 0, none⟩, rc, ha, hb, hc, rowR_of_own (ownsB_mono h2 (Nat.zero_le _)) (Nat.le_refl _) (hr row (List.mem_of_getElem? hi))⟩

theorem OwnR.src {B : Nat} {w : World} {g cap : Nat} {row : List Arc} (h : OwnR B w (.slice (some ⟨g, 0, none⟩) row.length cap) row) : ∀ (j : Nat) (u : Value), (flatA row)[j]? = some u → w.cell? ((⟨g, 0, none⟩ : Addr).add j) = some u := by
  rcases h.2 with ⟨h0, _⟩ | ⟨g', cp', cur, h0, hb, hg, h1, h2, h3, h4⟩
  · cases h0
  · obtain ⟨rfl, rfl⟩ : g = g' ∧ cap = cp' := by simpa using h0
    intro j u hu
    rw [Addr.add_lit, Nat.zero_add]
    exact RowAt.cell (xs := flatA row) ⟨cur, hg, by rw [flatA_len]; exact h4⟩ hu

def SpoilEnd (w' : World) (e : Ending) : Prop := ∃ (a' : Option Addr) (cp : Nat) (l' : Lts), e = .returned (.agg #[.slice a' l'.length cp]) ∧ LAt w'.heap.size w' a' cp l'

end Go.Proofs.YtikpcipkkhmcfaaGreat
