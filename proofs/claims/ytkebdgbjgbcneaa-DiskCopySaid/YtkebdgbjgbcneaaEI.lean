/- The reference's disk: contract of Crash. -/
import Derived.Test.YtkebdgbjgbcneaaEF
namespace Go.Proofs.Ytkebdgbjgbcneaa
open Go.RowKit Go.Maps Go.Shelf

theorem ropsC_get : ∀ {l : List OpM} {i : Nat} {o : OpM}, l[i]? = some o → (ropsC l)[i * 4]? = some (.int .i64 (o.kind : Int)) ∧ (ropsC l)[i * 4 + 1]? = some (str o.name) ∧ (ropsC l)[i * 4 + 2]? = some (str o.to) ∧ (ropsC l)[i * 4 + 3]? = some (.int .i64 (o.file : Int))
  | [], i, o, h => by simp at h
  | q :: r, 0, o, h => by
    simp only [List.getElem?_cons_zero, Option.some.injEq] at h
    subst h
    exact ⟨rfl, rfl, rfl, rfl⟩
  | q :: r, i + 1, o, h => by
    rw [List.getElem?_cons_succ] at h
    obtain ⟨h1, h2, h3, h4⟩ := ropsC_get h
    have e1 : (i + 1) * 4 = (i * 4) + 4 := by omega
    exact ⟨by rw [e1]; exact h1, by rw [e1]; exact h2, by rw [e1]; exact h3, by rw [e1]; exact h4⟩
theorem fold_take {ops : List OpM} {l : Dir} {k : Nat} {o : OpM} (h : ops[k]? = some o) : (ops.take (k + 1)).foldl doneD l = doneD ((ops.take k).foldl doneD l) o := by
  rw [List.take_add_one, h, List.foldl_append]
  rfl
theorem crashF_lt {keep : List Int} {p : Nm × Nat} {r : Dir} {k : Nat} {fs : List FM} {x : FM} (hx : fileAt fs p.2 = x) (h : x.safe < x.data.length) : crashF keep (p :: r) k fs = crashF keep r (k + 1) (fs.set p.2 ⟨x.data.take (x.safe + pickM keep k % (x.data.length - x.safe + 1)), x.safe + pickM keep k % (x.data.length - x.safe + 1)⟩) := by
  rw [crashF]
  simp only [hx]
  rw [if_pos h]
theorem crashF_ge {keep : List Int} {p : Nm × Nat} {r : Dir} {k : Nat} {fs : List FM} {x : FM} (hx : fileAt fs p.2 = x) (h : ¬ x.safe < x.data.length) : crashF keep (p :: r) k fs = crashF keep r k fs := by
  rw [crashF]
  simp only [hx]
  rw [if_neg h]
/-- One file of the row is written anew. -/
theorem crash_set {w : World} {B g n c i : Nat} {lk : List (Value × FM)} {q : Value × FM} (own : w.ownsRow B 89 2 (.slice (some ⟨g, 0, none⟩) n c) n (fileC lk)) (hl : lk[i]? = some q) (v : Value) (b : List UInt8) (k : Nat) :
    ((w.setCell ⟨g, i * 2, none⟩ v).setCell ⟨g, i * 2 + 1, none⟩ (.int .i64 (k : Int))).ownsRow B 89 2 (.slice (some ⟨g, 0, none⟩) n c) n (fileC (lk.set i (v, ⟨b, k⟩))) := by
  have h1 := ownsB_setCell own rfl (i * 2) v
  rw [fileC_set0 v b hl] at h1
  have h2 := ownsB_setCell h1 rfl (i * 2 + 1) (.int .i64 (k : Int))
  have hi := (List.getElem?_eq_some_iff.1 hl).1
  rw [fileC_set1 k (List.getElem?_set_self hi), List.set_set] at h2
  exact h2
section
variable {w : World} {F : List Nat} {d N : Nat} {m : DM} {fv dv sv ov : Value} {l : List (Value × FM)}
theorem set_same {α : Type} {l : List α} {j : Nat} {u : α} (h : l[j]? = some u) : l.set j u = l := by
  apply List.ext_getElem?
  intro i
  by_cases e : j = i
  · subst e
    rw [List.getElem?_set_self (List.getElem?_eq_some_iff.1 h).1, h]
  · rw [List.getElem?_set_ne e]
theorem crash_same {w : World} {B g n c i : Nat} {lk : List (Value × FM)} {q : Value × FM} (own : w.ownsRow B 89 2 (.slice (some ⟨g, 0, none⟩) n c) n (fileC lk)) (hl : lk[i]? = some q) :
    (w.setCell ⟨g, i * 2 + 1, none⟩ (.int .i64 (q.2.safe : Int))).ownsRow B 89 2 (.slice (some ⟨g, 0, none⟩) n c) n (fileC lk) := by
  have h1 := ownsB_setCell own rfl (i * 2 + 1) (.int .i64 (q.2.safe : Int))
  rwa [set_same (fileC_get hl).2] at h1
theorem crash_end {w9 : World} {a9 a4 : Option Addr} {nf c9 D c4 : Nat} {lk : List (Value × FM)} {dk : Dir} (h : RDv w F d m fv dv sv ov l) (f9 : Frm [] w w9) (own : w9.ownsRow w.heap.size 89 2 (.slice a9 nf c9) nf (fileC lk)) (hlk : lk.length = nf) (hfd : ∀ p ∈ lk, RowV w F p.1 p.2.data.length 1 (byt p.2.data)) (hrow : RowV w F (.slice a4 D c4) D 2 (dirC dk)) (hD : dk.length = D) :
    RD (((((((w9.setCell ⟨d, 1, none⟩ (.slice a9 nf c9)).setCell ⟨d, 2, none⟩ (.slice a4 D c4)).setCell ⟨d, 3, none⟩ (.slice a4 D c4)).setCell ⟨d, 4, none⟩ (.slice none 0 0)).setCell ⟨d, 5, none⟩ (.int .i64 0)).setCell ⟨d, 6, none⟩ (.bool false)).setCell ⟨d, 7, none⟩ (.int .i64 0)) F d { m with files := lk.map (·.2), dir := dk, safe := dk, ops := [], armed := 0, off := false, count := 0 } ∧ Frm [d] w (((((((w9.setCell ⟨d, 1, none⟩ (.slice a9 nf c9)).setCell ⟨d, 2, none⟩ (.slice a4 D c4)).setCell ⟨d, 3, none⟩ (.slice a4 D c4)).setCell ⟨d, 4, none⟩ (.slice none 0 0)).setCell ⟨d, 5, none⟩ (.int .i64 0)).setCell ⟨d, 6, none⟩ (.bool false)).setCell ⟨d, 7, none⟩ (.int .i64 0)) := by
  have hA := h.hd.frm f9 (by simp)
  have fz : Frm [d] w9 (((((((w9.setCell ⟨d, 1, none⟩ (.slice a9 nf c9)).setCell ⟨d, 2, none⟩ (.slice a4 D c4)).setCell ⟨d, 3, none⟩ (.slice a4 D c4)).setCell ⟨d, 4, none⟩ (.slice none 0 0)).setCell ⟨d, 5, none⟩ (.int .i64 0)).setCell ⟨d, 6, none⟩ (.bool false)).setCell ⟨d, 7, none⟩ (.int .i64 0)) :=
    (((((((Frm.refl [d] w9).setCell (p := ⟨d, 1, none⟩) (.inl (by simp)) _).setCell (p := ⟨d, 2, none⟩) (.inl (by simp)) _).setCell (p := ⟨d, 3, none⟩) (.inl (by simp)) _).setCell (p := ⟨d, 4, none⟩) (.inl (by simp)) _).setCell (p := ⟨d, 5, none⟩) (.inl (by simp)) _).setCell (p := ⟨d, 6, none⟩) (.inl (by simp)) _).setCell (p := ⟨d, 7, none⟩) (.inl (by simp)) _
  have hr := ((((((hA.setCell 1 (.slice a9 nf c9)).setCell 2 (.slice a4 D c4)).setCell 3 (.slice a4 D c4)).setCell 4 (.slice none 0 0)).setCell 5 (.int .i64 0)).setCell 6 (.bool false)).setCell 7 (.int .i64 0)
  have ft := (f9.mono (fq := [d]) (by simp)).trans fz (fun x hx => .inl hx)
  have hme : ∀ k ∈ [d], k ∈ F ∨ w9.heap.size ≤ k := fun k hk => by rw [List.mem_singleton] at hk; subst hk; exact .inl h.me
  have hrow9 := (rowV_new own h.low).frm fz hme
  generalize (((((((w9.setCell ⟨d, 1, none⟩ (.slice a9 nf c9)).setCell ⟨d, 2, none⟩ (.slice a4 D c4)).setCell ⟨d, 3, none⟩ (.slice a4 D c4)).setCell ⟨d, 4, none⟩ (.slice none 0 0)).setCell ⟨d, 5, none⟩ (.int .i64 0)).setCell ⟨d, 6, none⟩ (.bool false)).setCell ⟨d, 7, none⟩ (.int .i64 0)) = wF at *
  subst hD
  refine ⟨⟨_, _, _, _, _, h.turn (m' := { m with files := lk.map (·.2), dir := dk, safe := dk, ops := [], armed := 0, off := false, count := 0 }) (fv' := .slice a9 nf c9) (dv' := .slice a4 dk.length c4) (sv' := .slice a4 dk.length c4) (ov' := .slice none 0 0) (l' := lk) ft hr rfl ?_ (fun p hp => (hfd p hp).frm ft h.mine) (hrow.frm ft h.mine) (hrow.frm ft h.mine) (RowV.nil0 _ _ _)⟩, ft⟩
  rw [hlk]
  exact hrow9
set_option linter.unusedSimpArgs false in
set_option maxRecDepth 100000 in
set_option maxHeartbeats 4000000 in
theorem rcrash_any (h : RDv w F d m fv dv sv ov l) (ho : DOk N m) (hN : N ≤ 90000) {ka : Option Addr} {kn kc : Nat} {keep : List Int} (hk : RowV w F (.slice ka kn kc) kn 1 (ints keep)) :
    Calls Try.prog 46 #[.pointer (some ⟨d, 0, none⟩), .slice ka kn kc] w fun e w' => (e = .returned (.tuple #[]) ∧ RD w' F d (crashM m keep)) ∧ Frm [d] w w' := by
  obtain ⟨sa, sc, rfl⟩ := h.safe.shape
  obtain ⟨oa, oc, rfl⟩ := h.ops.shape
  have c3 := h.hd.cell (i := 3) rfl
  have c4 := h.hd.cell (i := 4) rfl
  obtain ⟨L, hL⟩ : ∃ L, L = m.ops.length := ⟨_, rfl⟩
  have hLN : L ≤ 90000 := by have := ho.few2; omega
  obtain ⟨P, hP⟩ : ∃ P, P = pickM keep 0 := ⟨_, rfl⟩
  obtain ⟨K, hK⟩ : ∃ K, K = P % (L + 1) := ⟨_, rfl⟩
  have hKL : K ≤ L := by rw [hK]; exact Nat.le_of_lt_succ (Nat.mod_lt _ (Nat.succ_pos _))
  have iw : IntKind.i64.wrap ((L : Int) + 1) = (L : Int) + 1 := IntWalk.i64_in _ (by omega)
  have hm0 : (L : Int) + 1 ≠ 0 := by omega
  have hmod : (P : Int).tmod ((L : Int) + 1) = (K : Int) := by rw [hK]; exact (Int.ofNat_tmod P (L + 1)).symm
  have hmd : (P : Int) % ((L : Int) + 1) = (K : Int) := by rw [hK]; exact (Int.natCast_emod P (L + 1)).symm
  have irw : IntKind.i64.wrap (K : Int) = (K : Int) := IntWalk.i64_in _ (by omega)
  have hcD : (m.ops.take K).foldl doneD m.safe = crashD m keep := by rw [crashD, hK, hP, hL]
  have hops := h.ops.2
  obtain ⟨_, _, eo, hoc, hom, _, hocell⟩ := hops
  cases eo
  rw [← hL] at c4 hoc
  have i1 : (L : Int) ≤ (oc : Int) := by omega
  have i2 : (oc : Int) ≤ 9223372036854775807 := by unfold maxLen at hom; omega
  have HOC := Lib.hid hocell
  have HH := Lib.hid h
  have HO := Lib.hid ho
  have HKP := Lib.hid hk
  have HL := Lib.hid hL
  have HPP := Lib.hid hP
  have HKL := Lib.hid hKL
  have HCD := Lib.hid hcD
  have HLN := Lib.hid hLN
  have HNN := Lib.hid hN
  clear h ho hN hk hL hP hK hcD hoc hom hocell hLN
  go_enter Try.func46, Try.ntmps46
  go_wp2_with fail
  go_loopg [4, 5] K (fun q s4 s5 wr => ∃ (k D : Nat) (a4 : Option Addr) (c4 : Nat) (dk : Dir), q = K - k ∧ k ≤ K ∧ s5 = .int .i64 (k : Int) ∧ s4 = .slice a4 D c4 ∧ dk = (m.ops.take k).foldl doneD m.safe ∧ dk.length = D ∧ RowV wr F (.slice a4 D c4) D 2 (dirC dk) ∧ Frm [] w wr)
  case atStart => exact ⟨0, _, sa, sc, m.safe, rfl, Nat.zero_le _, rfl, rfl, rfl, rfl, HH.out.safe, Frm.refl _ _⟩
  case round =>
    obtain ⟨k, D, a4, c4', dk, rfl, hk, rfl, rfl, hdk, hD, hrow, hF⟩ := hrel
    have HF := Lib.hid hF
    have HDK := Lib.hid hdk
    have HD := Lib.hid hD
    have HROW := Lib.hid hrow
    have hd64 : D ≤ 64 := by rw [← hD, hdk]; exact (HO.out.dirs k).few
    have HD64 := Lib.hid hd64
    have d4 := hF.cell c4 (by simp)
    have i4 : (0 : Int) ≤ (k : Int) := by omega
    clear hF hdk hD hrow hd64
    go_wp2_with fail
    go_region_held3 (fun w' => w'.cell? ⟨d, 4, none⟩ = some (.slice oa L oc)) (first | exact d4) ((go_at_call 61; refine (rpick_any kn kc ka keep (HKP.out.nil (by first | exact HF.out | exact HF.out.drew | exact HF.out.drewN _)) 0 (by decide)).mono ?_; rintro e2 w2 ⟨he2, rfl⟩; rw [← HPP.out] at he2; subst he2))
    have HFQ : Hid (Frm [] w wr.drew) := Lib.hid HF.out.drew
    have HRQ : Hid (RowV wr.drew F (.slice a4 D c4') D 2 (dirC dk)) := Lib.hid (HROW.out.nil ((Frm.refl [] wr).drew))
    clear HF HROW d4
    generalize wr.drew = wq at *
    by_cases hlt : k < K
    · have i5 : (k : Int) < (L : Int) := by have := HKL.out; omega
      obtain ⟨o, ho⟩ : ∃ o, m.ops[k]? = some o := ⟨_, List.getElem?_eq_getElem (by have := HKL.out; have := HL.out; omega)⟩
      have hko := (HO.out.ops o (List.mem_of_getElem? ho)).kinds
      obtain ⟨g0, g1, g2, g3⟩ := ropsC_get ho
      obtain ⟨b, oo, rfl, _, _, x0⟩ := HOC.out _ _ g0
      obtain ⟨b1, o1, e1, _, _, x1⟩ := HOC.out _ _ g1
      cases e1
      obtain ⟨b1, o1, e1, _, _, x2⟩ := HOC.out _ _ g2
      cases e1
      obtain ⟨b1, o1, e1, _, _, x3⟩ := HOC.out _ _ g3
      cases e1
      have y0 := HFQ.out.cell x0 (by simp)
      have y1 := HFQ.out.cell x1 (by simp)
      have y2 := HFQ.out.cell x2 (by simp)
      have y3 := HFQ.out.cell x3 (by simp)
      rw [← Nat.add_assoc] at y1 y2 y3
      have d4 := HFQ.out.cell c4 (by simp)
      have HST := Lib.hid (fold_take (l := m.safe) ho)
      have HDN := Lib.hid (rdone_any (w := wq) (by rw [← HD.out] at HRQ; exact HRQ.out) (by rw [HD.out]; have := HD64.out; omega) o hko)
      rw [HD.out] at HDN
      clear ho hko g0 g1 g2 g3 x0 x1 x2 x3
      go_wp2_with fail
      refine HDN.out.mono ?_
      rintro e3 w3 ⟨⟨a3, c3', rfl, ho3⟩, hf3⟩
      have HR3 : Hid (RowV w3 F (.slice a3 (doneD dk o).length c3') (doneD dk o).length 2 (dirC (doneD dk o))) := Lib.hid (rowV_new ho3 (fun k hk => Nat.lt_of_lt_of_le (HH.out.low k hk) HFQ.out.size))
      have HF3 : Hid (Frm [] w w3) := Lib.hid (HFQ.out.trans hf3 (by simp))
      have HDK2 : Hid (doneD dk o = (m.ops.take (k + 1)).foldl doneD m.safe) := Lib.hid (by rw [HST.out, ← HDK.out])
      clear ho3 hf3
      go_wp2_with fail
      go_roundg (K - (k + 1))
      case rel => exact ⟨k + 1, _, a3, c3', doneD dk o, rfl, hlt, by go_num, rfl, HDK2.out, rfl, HR3.out, HF3.out⟩
      case measure => omega
    · have HDC : Hid (dk = crashD m keep) := Lib.hid (by rw [HDK.out, ← HCD.out]; congr 2; omega)
      have HQ := Lib.hid (HH.out.nil HFQ.out)
      obtain ⟨nf, hnf⟩ : ∃ nf, nf = m.files.length := ⟨_, rfl⟩
      have hnl : l.length = nf := by rw [HQ.out.flen, hnf]
      have hnf9 : nf ≤ 90000 := by rw [hnf]; exact Nat.le_trans HO.out.few1 HNN.out
      have q1 := HQ.out.hd.cell (i := 1) rfl
      have hfr := HQ.out.fr
      rw [hnl] at hfr
      have HFR := Lib.hid (hfr.nil ((Frm.refl [] wq).alloc (.cells #[] 89)))
      have HNF := Lib.hid hnf
      have HNL := Lib.hid hnl
      have HNF9 := Lib.hid hnf9
      have hdl := HQ.out.hd.lt
      clear hnf hnl hfr hnf9
      go_wp2_with (first | (at_builtin; refine app_row rfl _ _ 73 89 _ 2 32 rfl Try.underlying73 infoFile rfl (by decide) (by decide) wq.heap.size 0 (.slice (some ⟨wq.heap.size, 0, none⟩) 0 0) [] rfl (owns_made0 wq _ _) _ nf (fileC l) F rfl HFR.out (oneCell_fileC l HQ.out.slices) nf (Nat.zero_add _) (by have := HNF9.out; omega) (by simp) ?_; intro a9 c9 w9 own9 hf9 hloc9) | fail)
      have fr9 : Frm [] wq w9 := ((Frm.refl [] wq).alloc _).trans hf9 (by simp [Value.ownBlock])
      rw [List.nil_append] at own9
      have FR9 := Lib.hid fr9
      have OW9 := Lib.hid own9
      clear own9 hf9 hloc9 fr9 q1
      have hdir : DirOk m.files.length dk := by rw [HDC.out]; exact HO.out.crashDir keep
      have HDIR : Hid (∀ p ∈ dk, p.2 < nf) := Lib.hid (fun p hp => by rw [HNF.out]; exact hdir.file p hp)
      have hrq := HRQ.out
      obtain ⟨_, _, _, e4, hDc, hcm4, _, hcell4⟩ := hrq
      cases e4
      have i6 : (D : Int) ≤ (c4' : Int) := by omega
      have i7 : (c4' : Int) ≤ 9223372036854775807 := by unfold maxLen at hcm4; omega
      have HC4 := Lib.hid hcell4
      have hok0 : ∀ p ∈ l, p.2.safe ≤ p.2.data.length ∧ p.2.data.length ≤ 4194304 := fun p hp => HO.out.file _ (by rw [← HH.out.fm]; exact List.mem_map_of_mem hp)
      have HOK0 := Lib.hid hok0
      clear hdir hDc hcm4 hcell4 hok0
      go_loopg [7, 8, 9, 10] D (fun q s7 s8 s9 s10 wr => ∃ (k at_ : Nat) (lk : List (Value × FM)), q = D - k ∧ k ≤ D ∧ s8 = .int .i64 (k : Int) ∧ s7 = .int .i64 (at_ : Int) ∧ at_ ≤ k + 1 ∧ lk.length = nf ∧ crashF keep (dk.drop k) at_ (lk.map (·.2)) = crashF keep dk 1 m.files ∧ wr.ownsRow wq.heap.size 89 2 (.slice a9 nf c9) nf (fileC lk) ∧ (∀ p ∈ lk, RowV wq F p.1 p.2.data.length 1 (byt p.2.data)) ∧ (∀ p ∈ lk, p.2.safe ≤ p.2.data.length ∧ p.2.data.length ≤ 4194304) ∧ Frm [] wq wr)
      case atStart => exact ⟨0, 1, l, rfl, Nat.zero_le _, rfl, rfl, Nat.le_refl _, HNL.out, by rw [HH.out.fm]; rfl, OW9.out, HQ.out.fd, HOK0.out, FR9.out⟩
      case round =>
        obtain ⟨k2, at_, lk, rfl, hk2, rfl, rfl, hat, hlk, hcf, hown, hfd, hok, hfr⟩ := hrel
        have HAT := Lib.hid hat
        have HLK := Lib.hid hlk
        have HCF := Lib.hid hcf
        have HOWN := Lib.hid hown
        have HFD := Lib.hid hfd
        have HOK := Lib.hid hok
        have HFR2 := Lib.hid hfr
        have j4 : (0 : Int) ≤ (k2 : Int) := by omega
        have hD64 := HD64.out
        have hat9 : at_ ≤ 66 := by omega
        have HAT9 := Lib.hid hat9
        clear hat hlk hcf hown hfd hok hfr hat9
        by_cases hlt2 : k2 < D
        · have j5 : (k2 : Int) < (D : Int) := by omega
          obtain ⟨p, hp⟩ : ∃ p, dk[k2]? = some p := ⟨_, List.getElem?_eq_getElem (by rw [HD.out]; exact hlt2)⟩
          obtain ⟨_, g1⟩ := dirC_get hp
          obtain ⟨b, o, rfl, _, _, e1⟩ := HC4.out _ _ g1
          have e1r := HFR2.out.cell e1 (by simp)
          rw [← Nat.add_assoc] at e1r
          have hpf := HDIR.out p (List.mem_of_getElem? hp)
          have hdrop := drop_get hp
          have HDROP := Lib.hid hdrop
          obtain ⟨pf, hpe⟩ : ∃ pf, pf = p.2 := ⟨_, rfl⟩
          rw [← hpe] at e1r hpf
          have HPE := Lib.hid hpe
          obtain ⟨⟨v, x⟩, hx⟩ : ∃ q, lk[pf]? = some q := ⟨_, List.getElem?_eq_getElem (by rw [HLK.out]; exact hpf)⟩
          have hxm := List.mem_of_getElem? hx
          have hxr : RowV wq F v x.data.length 1 (byt x.data) := HFD.out _ hxm
          have hxo : x.safe ≤ x.data.length ∧ x.data.length ≤ 4194304 := HOK.out _ hxm
          obtain ⟨a5, c5, rfl⟩ := hxr.shape
          have hxr2 := hxr
          obtain ⟨_, _, _, e5, hlc5, hcm5, _, _⟩ := hxr2
          cases e5
          obtain ⟨g9, cc9, e9, hg9, hc9, hm9, row9⟩ := ownsB_some HOWN.out (by omega)
          simp only [Value.slice.injEq] at e9
          obtain ⟨rfl, -, rfl⟩ := e9
          obtain ⟨kk0, kk1⟩ := fileC_get hx
          have y0 := row9.cell kk0
          have y1 := row9.cell kk1
          have z0 := row9.frozen (pf * 2)
          have z1 := row9.frozen (pf * 2 + 1)
          have j6 : (pf : Int) < (nf : Int) := by omega
          have j7 : (0 : Int) ≤ (pf : Int) := by omega
          have j8 : (nf : Int) ≤ 9223372036854775807 := by have := HNF9.out; omega
          obtain ⟨dl, hdl5⟩ : ∃ dl, dl = x.data.length := ⟨_, rfl⟩
          obtain ⟨sf, hsf⟩ : ∃ sf, sf = x.safe := ⟨_, rfl⟩
          have y0' : wr.cell? ⟨g9, pf * 2, none⟩ = some (.slice a5 dl c5) := by rw [hdl5]; exact y0
          have y1' : wr.cell? ⟨g9, pf * 2 + 1, none⟩ = some (.int .i64 (sf : Int)) := by rw [hsf]; exact y1
          have HX : Hid (lk[pf]? = some (.slice a5 dl c5, x)) := Lib.hid (by rw [hdl5]; exact hx)
          have HXR : Hid (RowV wq F (.slice a5 dl c5) dl 1 (byt x.data)) := Lib.hid (by rw [hdl5]; exact hxr)
          rw [← hdl5, ← hsf] at hxo
          rw [← hdl5] at hlc5
          have HDL5 := Lib.hid hdl5
          have HSF := Lib.hid hsf
          obtain ⟨T, hT⟩ : ∃ T, T = dl - sf := ⟨_, rfl⟩
          have itw : IntKind.i64.wrap ((dl : Int) - (sf : Int)) = (T : Int) := by rw [IntWalk.i64_in _ (by omega)]; omega
          have HXO := Lib.hid hxo
          have HT := Lib.hid hT
          have HG9 := Lib.hid hg9
          have HFX : Hid (fileAt (lk.map (·.2)) p.2 = x) := Lib.hid (fileAt_of (by rw [← hpe, List.getElem?_map, hx]; rfl))
          have l5 : (c5 : Int) ≤ 9223372036854775807 := by unfold maxLen at hcm5; omega
          have j9 : (dl : Int) ≤ (c5 : Int) := by omega
          have hszq := HFR2.out.size
          have hdg : d ≠ g9 := by omega
          clear hp g1 e1 hpf hdrop hpe hx hxm hxr hxo hlc5 hcm5 hc9 hm9 row9 kk0 kk1 y0 y1 hdl5 hsf hT hg9
          by_cases hgt : 0 < T
          · have jT : (0 : Int) < (T : Int) := by omega
            have jT1 : (T : Int) ≤ 4194304 := by have := HT.out; have := HXO.out; omega
            have hTT := HT.out
            have hXX := HXO.out
            obtain ⟨PK, hPK⟩ : ∃ PK, PK = pickM keep at_ := ⟨_, rfl⟩
            obtain ⟨r, hr⟩ : ∃ r, r = PK % (T + 1) := ⟨_, rfl⟩
            have hrT : r ≤ T := by rw [hr]; exact Nat.le_of_lt_succ (Nat.mod_lt _ (Nat.succ_pos _))
            have iT1 : IntKind.i64.wrap ((T : Int) + 1) = (T : Int) + 1 := IntWalk.i64_in _ (by omega)
            have iT2 : (T : Int) + 1 ≠ 0 := by omega
            have hmodT : (PK : Int).tmod ((T : Int) + 1) = (r : Int) := by rw [hr]; exact (Int.ofNat_tmod PK (T + 1)).symm
            have hmdT : (PK : Int) % ((T : Int) + 1) = (r : Int) := by rw [hr]; exact (Int.natCast_emod PK (T + 1)).symm
            have irT : IntKind.i64.wrap (r : Int) = (r : Int) := IntWalk.i64_in _ (by omega)
            obtain ⟨KK, hKK⟩ : ∃ KK, KK = sf + r := ⟨_, rfl⟩
            have iKK : IntKind.i64.wrap ((sf : Int) + (r : Int)) = (KK : Int) := by rw [IntWalk.i64_in _ (by omega)]; omega
            have hKd : KK ≤ dl := by omega
            have jK1 : (KK : Int) ≤ (c5 : Int) := by omega
            have jK0 : (0 : Int) ≤ (KK : Int) := by omega
            have ja0 : (0 : Int) ≤ (at_ : Int) := by omega
            have ja1 : (at_ : Int) ≤ 66 := by have := HAT9.out; omega
            have HPK := Lib.hid hPK
            have HKd := Lib.hid hKd
            have HGT : Hid (x.safe < x.data.length) := Lib.hid (by rw [← HSF.out, ← HDL5.out]; omega)
            have HKE : Hid (KK = x.safe + pickM keep at_ % (x.data.length - x.safe + 1)) := Lib.hid (by rw [hKK, hr, hPK, hTT, HDL5.out, HSF.out])
            clear hTT hXX hPK hr hrT hKK hKd hgt
            go_wp2_with fail
            go_quiet (fail)
            have y0s : (wr.drewN nq).cell? ⟨g9, pf * 2, none⟩ = some (.slice a5 dl c5) := y0'
            have y1s : (wr.drewN nq).cell? ⟨g9, pf * 2 + 1, none⟩ = some (.int .i64 (sf : Int)) := y1'
            have z0s : (wr.drewN nq).frozen? ⟨g9, pf * 2, none⟩ = false := z0
            have z1s : (wr.drewN nq).frozen? ⟨g9, pf * 2 + 1, none⟩ = false := z1
            have OWS : Hid ((wr.drewN nq).ownsRow wq.heap.size 89 2 (.slice (some ⟨g9, 0, none⟩) nf c9) nf (fileC lk)) := Lib.hid HOWN.out
            have FRS : Hid (Frm [] wq (wr.drewN nq)) := Lib.hid (HFR2.out.drewN _)
            clear y0' y1' z0 z1 HOWN HFR2 e1r
            generalize wr.drewN nq = ws at *
            go_wp2_with fail
            go_region_law ((try go_simp); refine (rpick_any kn kc ka keep (HKP.out.nil (HFQ.out.trans (by first | exact FRS.out | exact FRS.out.drew | exact FRS.out.drewN _) (by simp))) at_ (by have := HAT9.out; omega)).mono ?_; rintro e2 w2 ⟨he2, rfl⟩; rw [← HPK.out] at he2; subst he2)
            all_goals
              have h1 := ownsB_setCell OWS.out rfl (pf * 2) (.slice a5 KK c5)
              rw [fileC_set0 (.slice a5 KK c5) (x.data.take KK) HX.out] at h1
              have hpfn : pf < lk.length := (List.getElem?_eq_some_iff.1 HX.out).1
              have hq1 : (lk.set pf (Value.slice a5 KK c5, (⟨x.data.take KK, x.safe⟩ : FM)))[pf]? = some (Value.slice a5 KK c5, (⟨x.data.take KK, x.safe⟩ : FM)) := List.getElem?_set_self hpfn
              have hr1 : RowAt (ws.setCell ⟨g9, pf * 2, none⟩ (.slice a5 KK c5)) g9 89 (fileC (lk.set pf (Value.slice a5 KK c5, (⟨x.data.take KK, x.safe⟩ : FM)))) := by
                obtain ⟨g', cap, e, _, _, _, r⟩ := ownsB_some h1 (by have := HLK.out; omega)
                cases e
                exact r
              have y0n : (ws.setCell ⟨g9, pf * 2, none⟩ (.slice a5 KK c5)).drew.cell? ⟨g9, pf * 2, none⟩ = some (.slice a5 KK c5) := hr1.cell (fileC_get hq1).1
              have y1n : (ws.setCell ⟨g9, pf * 2, none⟩ (.slice a5 KK c5)).drew.cell? ⟨g9, pf * 2 + 1, none⟩ = some (.int .i64 (x.safe : Int)) := hr1.cell (fileC_get hq1).2
              have z1n : (ws.setCell ⟨g9, pf * 2, none⟩ (.slice a5 KK c5)).drew.frozen? ⟨g9, pf * 2 + 1, none⟩ = false := hr1.frozen _
              have OW1 : Hid ((ws.setCell ⟨g9, pf * 2, none⟩ (.slice a5 KK c5)).drew.ownsRow wq.heap.size 89 2 (.slice (some ⟨g9, 0, none⟩) nf c9) nf (fileC (lk.set pf (Value.slice a5 KK c5, (⟨x.data.take KK, x.safe⟩ : FM))))) := Lib.hid h1
              have F1 : Hid (Frm [] wq (ws.setCell ⟨g9, pf * 2, none⟩ (.slice a5 KK c5)).drew) := Lib.hid ((FRS.out.setCell (p := ⟨g9, pf * 2, none⟩) (.inr HG9.out) _).drew)
              have HQ1 := Lib.hid hq1
              have HPF := Lib.hid hpfn
              clear h1 hr1 hq1 hpfn y0s y1s z0s z1s OWS FRS
              generalize (ws.setCell ⟨g9, pf * 2, none⟩ (.slice a5 KK c5)).drew = w1 at *
              have h2 := ownsB_setCell OW1.out rfl (pf * 2 + 1) (.int .i64 (KK : Int))
              rw [fileC_set1 KK HQ1.out, List.set_set] at h2
              have HOW2 := Lib.hid h2
              have HF2 : Hid (Frm [] wq (w1.setCell ⟨g9, pf * 2 + 1, none⟩ (.int .i64 (KK : Int)))) := Lib.hid (F1.out.setCell (p := ⟨g9, pf * 2 + 1, none⟩) (.inr HG9.out) _)
              have htk : (x.data.take KK).length = KK := by rw [List.length_take, ← HDL5.out]; exact Nat.min_eq_left HKd.out
              have HLK2 : Hid ((lk.set pf (Value.slice a5 KK c5, (⟨x.data.take KK, KK⟩ : FM))).length = nf) := Lib.hid (by rw [List.length_set]; exact HLK.out)
              have HCF2 : Hid (crashF keep (dk.drop (k2 + 1)) (at_ + 1) ((lk.set pf (Value.slice a5 KK c5, (⟨x.data.take KK, KK⟩ : FM))).map (·.2)) = crashF keep dk 1 m.files) := Lib.hid (by rw [← HCF.out, HDROP.out, crashF_lt HFX.out HGT.out, ← HKE.out, List.map_set, HPE.out])
              have HFD2 : Hid (∀ p ∈ lk.set pf (Value.slice a5 KK c5, (⟨x.data.take KK, KK⟩ : FM)), RowV wq F p.1 p.2.data.length 1 (byt p.2.data)) := Lib.hid (fun q hq => by
                rcases List.mem_or_eq_of_mem_set hq with hq | rfl
                · exact HFD.out q hq
                · show RowV wq F (.slice a5 KK c5) (x.data.take KK).length 1 _
                  rw [htk]
                  exact cut_row HXR.out HKd.out)
              have HOK2 : Hid (∀ p ∈ lk.set pf (Value.slice a5 KK c5, (⟨x.data.take KK, KK⟩ : FM)), p.2.safe ≤ p.2.data.length ∧ p.2.data.length ≤ 4194304) := Lib.hid (fun q hq => by
                rcases List.mem_or_eq_of_mem_set hq with hq | rfl
                · exact HOK.out q hq
                · have h8 := HKd.out
                  have h9 := HXO.out.2
                  exact ⟨by show KK ≤ (x.data.take KK).length; omega, by show (x.data.take KK).length ≤ _; omega⟩)
              have HAT2 : Hid (at_ + 1 ≤ k2 + 1 + 1) := Lib.hid (by have := HAT.out; omega)
              clear h2 htk OW1 F1 HQ1
              go_wp2_with fail
              go_roundg (D - (k2 + 1))
              case rel => exact ⟨k2 + 1, at_ + 1, _, rfl, hlt2, by go_num, by go_num, HAT2.out, HLK2.out, HCF2.out, HOW2.out, HFD2.out, HOK2.out, HF2.out⟩
              case measure => omega
          · have jT : ¬ (0 : Int) < (T : Int) := by omega
            have hsd : sf = dl := by have := HT.out; have := HXO.out.1; omega
            have HSD := Lib.hid hsd
            clear hsd hgt
            go_wp2_with fail
            go_quiet (fail)
            have y0s : (wr.drewN nq).cell? ⟨g9, pf * 2, none⟩ = some (.slice a5 dl c5) := y0'
            have y1s : (wr.drewN nq).cell? ⟨g9, pf * 2 + 1, none⟩ = some (.int .i64 (sf : Int)) := y1'
            have z0s : (wr.drewN nq).frozen? ⟨g9, pf * 2, none⟩ = false := z0
            have z1s : (wr.drewN nq).frozen? ⟨g9, pf * 2 + 1, none⟩ = false := z1
            have OWS : Hid ((wr.drewN nq).ownsRow wq.heap.size 89 2 (.slice (some ⟨g9, 0, none⟩) nf c9) nf (fileC lk)) := Lib.hid HOWN.out
            have FRS : Hid (Frm [] wq (wr.drewN nq)) := Lib.hid (HFR2.out.drewN _)
            clear y0' y1' z0 z1 HOWN HFR2 e1r
            generalize wr.drewN nq = ws at *
            have HOW2 := Lib.hid (crash_same OWS.out HX.out)
            have hds : x.safe = dl := by rw [← HSF.out]; exact HSD.out
            rw [hds] at HOW2
            have HF2 : Hid (Frm [] wq (ws.setCell ⟨g9, pf * 2 + 1, none⟩ (.int .i64 (dl : Int)))) := Lib.hid (FRS.out.setCell (p := ⟨g9, pf * 2 + 1, none⟩) (.inr HG9.out) _)
            have HCF2 : Hid (crashF keep (dk.drop (k2 + 1)) at_ (lk.map (·.2)) = crashF keep dk 1 m.files) := Lib.hid (by rw [← HCF.out, HDROP.out, crashF_ge HFX.out (by rw [hds, HDL5.out]; exact Nat.lt_irrefl _)])
            have HAT2 : Hid (at_ ≤ k2 + 1 + 1) := Lib.hid (by have := HAT.out; omega)
            clear hds
            go_wp2_with fail
            go_roundg (D - (k2 + 1))
            case rel => exact ⟨k2 + 1, at_, lk, rfl, hlt2, by go_num, rfl, HAT2.out, HLK.out, HCF2.out, HOW2.out, HFD.out, HOK.out, HF2.out⟩
            case measure => omega
        · have j5 : ¬ (k2 : Int) < (D : Int) := by omega
          have HFIN : Hid (lk.map (·.2) = crashF keep dk 1 m.files) := Lib.hid (by rw [← HCF.out, List.drop_eq_nil_of_le (by rw [HD.out]; omega)]; rfl)
          have DR := Lib.hid (HQ.out.nil HFR2.out)
          have f0 := DR.out.hd.cell (i := 0) rfl
          have f1 := DR.out.hd.cell (i := 1) rfl
          have f2 := DR.out.hd.cell (i := 2) rfl
          have f3 := DR.out.hd.cell (i := 3) rfl
          have f4 := DR.out.hd.cell (i := 4) rfl
          have f5 := DR.out.hd.cell (i := 5) rfl
          have f6 := DR.out.hd.cell (i := 6) rfl
          have f7 := DR.out.hd.cell (i := 7) rfl
          have z1 := DR.out.hd.frozen 1
          have z2 := DR.out.hd.frozen 2
          have z3 := DR.out.hd.frozen 3
          have z4 := DR.out.hd.frozen 4
          have z5 := DR.out.hd.frozen 5
          have z6 := DR.out.hd.frozen 6
          have z7 := DR.out.hd.frozen 7
          have HEND := Lib.hid (crash_end HQ.out HFR2.out HOWN.out HLK.out HFD.out HRQ.out HD.out)
          go_wp2_with fail
          go_end0
          have hce : ({ m with files := lk.map (·.2), dir := dk, safe := dk, ops := [], armed := 0, off := false, count := 0 } : DM) = crashM m keep := by rw [HFIN.out, HDC.out]; rfl
          have h9 := HEND.out
          rw [hce] at h9
          exact ⟨⟨rfl, h9.1⟩, (HFQ.out.mono (by simp)).trans h9.2 (fun x hx => .inl hx)⟩
end

end Go.Proofs.Ytkebdgbjgbcneaa
