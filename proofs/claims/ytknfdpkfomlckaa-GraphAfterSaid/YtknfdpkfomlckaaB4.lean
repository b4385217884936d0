/- Contracts of graph.states and graph.Reach. -/
import Derived.Test.YtknfdpkfomlckaaB2
import Derived.Test.YtknfdpkfomlckaaB3
import Derived.Test.YtknfdpkfomlckaaAF
namespace Go.Proofs.Ytknfdpkfomlckaa
open Go.RowKit

def PredI (g : Nat) (cp : Value) (p : Int → Bool) (w0 : World) : Prop := ∀ (W : World) (x : Int), Frm [] w0 W → Calls Try.prog g #[.int .i64 x, cp] W fun e' w' => e' = .returned (.bool (p x)) ∧ Frm [] W w'

set_option maxRecDepth 100000 in
theorem idxI_any (B g : Nat) (cp : Value) (p : Int → Bool) (eg : ∀ args w, (callFunc g args).run Try.prog w = .ok (.enter g args) w) (a : Option Addr) (cap : Nat) (xs : List Int) (w : World) (hp : PredI g cp p w) (h : Rd B w a xs.length cap 1 (ints xs)) :
    Calls Try.prog 93 #[.slice a xs.length cap, .func (.func g) #[] #[cp]] w fun e w' => (∃ v : Int, e = .returned (.int .i64 v) ∧ IdxP (xs.any p) v) ∧ Frm [] w w' := by
  have l1 := h.lt
  have H := Lib.hid h
  have HP := Lib.hid hp
  clear h hp
  go_enter Try.func93, Try.ntmps93
  go_wp2_with fail
  go_loopg [8] xs.length (fun q i wr => ∃ (k : Nat), q = xs.length - k ∧ k ≤ xs.length ∧ i = .int .i64 k ∧ (xs.drop k).any p = xs.any p ∧ Frm [] w wr)
  case atStart => exact ⟨0, rfl, Nat.zero_le _, rfl, rfl, Frm.refl _ _⟩
  case round =>
    obtain ⟨k, rfl, hk, rfl, hd, hF⟩ := hrel
    have HF := Lib.hid hF
    have i4 : (0 : Int) ≤ (k : Int) := by omega
    clear hF
    by_cases hlt : k < xs.length
    · have i5 : (k : Int) < (xs.length : Int) := by omega
      obtain ⟨y, hy⟩ : ∃ y, xs[k]? = some y := ⟨_, List.getElem?_eq_getElem hlt⟩
      rw [drop_cons hy, List.any_cons] at hd
      obtain ⟨g1, o1, rfl, _, c1⟩ := H.out.at hy
      have d1 := HF.out.cell c1 (by simp)
      clear c1 hy
      have hcall := HP.out wr y HF.out
      cases hpe : p y with
      | true =>
        rw [hpe] at hcall hd
        have HD : Hid (xs.any p = true) := Lib.hid (by rw [← hd]; simp)
        have HC := Lib.hid hcall
        clear hd hpe hcall
        go_wp2_with (go_at_fn g; refine HC.out.mono ?_; rintro e7 w7 ⟨rfl, hf7⟩)
        go_ret
        exact ⟨⟨_, rfl, by rw [HD.out]; exact ⟨(fun _ => by omega), (fun h9 => by cases h9)⟩⟩, HF.out.trans hf7 (by simp)⟩
      | false =>
        rw [hpe] at hcall hd
        rw [Bool.false_or] at hd
        have HD := Lib.hid hd
        have HC := Lib.hid hcall
        clear hd hpe hcall
        go_wp2_with (go_at_fn g; refine HC.out.mono ?_; rintro e7 w7 ⟨rfl, hf7⟩)
        go_roundg (xs.length - (k + 1))
        case rel => exact ⟨k + 1, rfl, by omega, by go_num, HD.out, HF.out.trans hf7 (by simp)⟩
        case measure => omega
    · have i5 : ¬ (k : Int) < (xs.length : Int) := by omega
      have HR : Hid (xs.any p = false) := Lib.hid (by rw [← hd, List.drop_eq_nil_of_le (by omega)]; rfl)
      clear hd
      go_wp2_with fail
      go_ret
      exact ⟨⟨-1, rfl, by rw [HR.out]; exact ⟨(fun h9 => by cases h9), fun _ => rfl⟩⟩, HF.out⟩

theorem containsI_any (B g : Nat) (cp : Value) (p : Int → Bool) (eg : ∀ args w, (callFunc g args).run Try.prog w = .ok (.enter g args) w) (a : Option Addr) (cap : Nat) (xs : List Int) (w : World) (hp : PredI g cp p w) (h : Rd B w a xs.length cap 1 (ints xs)) :
    Calls Try.prog 85 #[.slice a xs.length cap, .func (.func g) #[] #[cp]] w fun e w' => e = .returned (.bool (xs.any p)) ∧ Frm [] w w' := by
  have hi := idxI_any B g cp p eg a cap xs w hp h
  have HI := Lib.hid hi
  clear hi h hp
  go_enter Try.func85, Try.ntmps85
  go_wp2_with fail
  refine HI.out.mono ?_
  rintro e1 w1 ⟨⟨v, rfl, hv⟩, hf1⟩
  obtain ⟨h1, h2⟩ := hv
  cases hr : xs.any p with
  | true =>
    have h3 := h1 hr
    have HR := Lib.hid hr
    clear h1 h2 hr HI
    go_wp2_with fail
    go_ret
    exact ⟨ret_bool (by rw [HR.out]), hf1⟩
  | false =>
    have h3 := h2 hr
    subst h3
    have HR := Lib.hid hr
    clear h1 h2 hr HI
    go_wp2_with fail
    go_ret
    exact ⟨ret_bool (by rw [HR.out]), hf1⟩

theorem notst (B b : Nat) (a : Option Addr) (cap : Nat) (l : Lts) (w0 : World) (h : LAt B w0 a cap l) (hb : w0.cell? ⟨b, 0, none⟩ = some (.slice a l.length cap)) : PredI 86 (.pointer (some ⟨b, 0, none⟩)) (fun x => !inB l.length x) w0 := by
  intro W x hf
  have cb := hf.cell hb (by simp)
  have hs := state_any B a cap l x W (h.nil hf rfl)
  go_enter Try.func86, Try.ntmps86
  go_wp2_with fail
  refine hs.mono ?_
  rintro e1 w1 ⟨rfl, hf1⟩
  go_wp2_with fail
  go_ret
  exact ⟨rfl, hf1⟩

theorem all_any (xs : List Int) (p : Int → Bool) : (!(xs.any fun x => !p x)) = xs.all p := by
  induction xs with
  | nil => rfl
  | cons x r ih => rw [List.any_cons, List.all_cons, ← ih, Bool.not_or, Bool.not_not]

set_option linter.unusedSimpArgs false in
set_option maxRecDepth 100000 in
set_option maxHeartbeats 2000000 in
theorem states_any (B : Nat) (a : Option Addr) (cap : Nat) (l : Lts) (fa : Option Addr) (fc : Nat) (fs : List Int) (w : World) (h : LAt B w a cap l) (hf : Rd B w fa fs.length fc 1 (ints fs)) :
    Calls Try.prog 77 #[.agg #[.slice a l.length cap], .slice fa fs.length fc] w fun e w' => e = .returned (.bool (validB l && fs.all (inB l.length))) ∧ Frm [] w w' := by
  have f0 : Frm [] w (w.alloc (.cells #[.slice a l.length cap] 25)) := (Frm.refl [] w).alloc _
  have HB := Lib.hid (box1 w (.slice a l.length cap) 25)
  have hva := valid_any B a cap l _ (h.nil f0 rfl)
  have HL0 := Lib.hid (h.nil f0 rfl)
  have HR0 := Lib.hid (hf.frm f0 (by simp))
  have hmf : ∀ (fn : Fn) (first cap : Array Value) (w : World), (Instr.makeFunc fn first cap).run Try.prog w = .ok (.func fn first cap) w := fun _ _ _ _ => rfl
  have eg : ∀ args w, (callFunc 86 args).run Try.prog w = .ok (.enter 86 args) w := enters_of Try.func86 (by kernel_rfl) rfl
  have EG := Lib.hid eg
  clear h hf eg
  go_enter Try.func77, Try.ntmps77
  go_wp2_with fail
  refine hva.mono ?_
  rintro e1 w1 ⟨rfl, hf1⟩
  clear hva
  have HF1 := Lib.hid (f0.trans hf1 (by simp))
  have hb1 := (HB.out.frm hf1 (by simp)).cell (i := 0) rfl
  have HL1 := Lib.hid (HL0.out.nil hf1 rfl)
  have HR1 := Lib.hid (HR0.out.frm hf1 (by simp))
  clear hf1
  cases hv : validB l with
  | false =>
    have HV := Lib.hid hv
    clear hv
    go_wp2_with fail
    go_ret
    exact ⟨by first | rfl | (rw [HV.out]; rfl), HF1.out⟩
  | true =>
    have HV := Lib.hid hv
    have hco := containsI_any B 86 (.pointer (some ⟨w.heap.size, 0, none⟩)) (fun x => !inB l.length x) EG.out fa fc fs w1 (notst B w.heap.size a cap l w1 HL1.out hb1) HR1.out
    have HCO := Lib.hid hco
    clear hv hco
    go_wp2_with fail
    refine HCO.out.mono ?_
    rintro e2 w2 ⟨rfl, hf2⟩
    have HF2 := Lib.hid (HF1.out.trans hf2 (by simp))
    clear hf2
    go_wp2_with fail
    go_ret
    exact ⟨by first | (rw [HV.out, ← all_any]; rfl) | (rw [← all_any]; rfl), HF2.out⟩

set_option linter.unusedSimpArgs false in
set_option maxRecDepth 100000 in
set_option maxHeartbeats 2000000 in
theorem greach_any (B0 : Nat) (a : Option Addr) (cap : Nat) (l : Lts) (fa : Option Addr) (fc : Nat) (fs : List Int) (silent : Bool) (w : World) (h : LAt B0 w a cap l) (hfr0 : Rd w.heap.size w fa fs.length fc 1 (ints fs)) :
    Calls Try.prog 57 #[.agg #[.slice a l.length cap], .slice fa fs.length fc, .bool silent] w fun e w' => ReachEnd w.heap.size l fs silent w' e ∧ Frm [] w w' := by
  have f0 : Frm [] w (w.alloc (.cells #[.slice a l.length cap] 25)) := (Frm.refl [] w).alloc _
  have hcut0 := h.cut
  clear h
  have h := hcut0
  clear hcut0
  have HB := Lib.hid (box1 w (.slice a l.length cap) 25)
  have HL0 := Lib.hid (h.nil f0 rfl)
  have HR0 := Lib.hid (hfr0.frm f0 (by simp))
  have hst := states_any w.heap.size a cap l fa fc fs _ (h.nil f0 rfl) (hfr0.frm f0 (by simp))
  have hl := h.lt
  clear h hfr0
  go_enter Try.func57, Try.ntmps57
  go_wp2_with fail
  refine hst.mono ?_
  rintro e1 w1 ⟨rfl, hf1⟩
  clear hst
  have hb1 := (HB.out.frm hf1 (by simp)).cell (i := 0) rfl
  have HF1 := Lib.hid (f0.trans hf1 (by simp))
  have HL1 := Lib.hid (HL0.out.nil hf1 rfl)
  have HR1 := Lib.hid (HR0.out.frm hf1 (by simp))
  have hsz1 := hf1.size
  simp only [World.alloc, Array.size_push] at hsz1
  clear hf1
  cases hc : (validB l && fs.all (inB l.length)) with
  | false =>
    have HE : Hid (ReachEnd w.heap.size l fs silent w1 (.returned (.slice none 0 0))) := Lib.hid (by
      rw [ReachEnd, if_neg]
      rintro ⟨h1, h2⟩
      rw [h1, h2] at hc
      cases hc)
    clear hc
    go_wp2_with fail
    go_ret
    exact ⟨HE.out, HF1.out⟩
  | true =>
    obtain ⟨hv, hst⟩ := Bool.and_eq_true_iff.1 hc
    have HVB := Lib.hid hv
    have hfew := (vlts_of hv).few
    obtain ⟨fr, hfrl⟩ : ∃ fr, fs.map Int.toNat = fr := ⟨_, rfl⟩
    have hfs : fs = natI fr := by
      rw [← hfrl, natI, List.map_map]
      refine (List.map_id fs).symm.trans (List.map_congr_left (fun x hx => ?_))
      have := (inB_iff _ _).1 (List.all_eq_true.1 hst x hx)
      simp only [Function.comp_apply, id]
      omega
    have hfrlt : ∀ v ∈ fr, v < l.length := by
      intro v hv
      rw [← hfrl] at hv
      obtain ⟨x, hx, rfl⟩ := List.mem_map.1 hv
      have := (inB_iff _ _).1 (List.all_eq_true.1 hst x hx)
      omega
    have hlen : fs.length = fr.length := by rw [hfs, natI_len]
    have HST := Lib.hid hst
    have HFRL := Lib.hid hfrl
    have HFS := Lib.hid hfs
    have HLT := Lib.hid hfrlt
    have HLEN := Lib.hid hlen
    have hnew := wnew_any a cap l.length w1 (by omega)
    clear hc hv hst hfrl hfs hfrlt hlen
    go_wp2_with fail
    refine hnew.mono ?_
    rintro e2 w2 ⟨wb, gs, rfl, hw, hf2⟩
    have HF2 := Lib.hid hf2
    have hge1 := hw.lo
    have hge2 := (hw.own.lt gs rfl).1
    have hwr := wreach_any w1.heap.size wb gs a cap l 0 _ fa fc fr silent w2 HVB.out hw (by omega) ((HL1.out.nil hf2 rfl).mono (by omega)) (fun w' hf' => by
      have h1 := (HR1.out.frm hf2 (by simp)).frm hf' (by simp; omega)
      rw [HFS.out, natI_len] at h1
      exact h1.mono (by have := hf2.size; omega)) HLT.out
    rw [← HLEN.out] at hwr
    clear hnew hf2 hw hb1
    go_wp2_with fail
    refine hwr.mono ?_
    rintro e3 w3 ⟨h3, -, hf3⟩
    obtain ⟨a3, c3, vs, rfl, hown3, hir⟩ := h3
    have HE : Hid (ReachEnd w.heap.size l fs silent w3 (.returned (.slice a3 vs.length c3))) := Lib.hid (by
      rw [ReachEnd, if_pos ⟨HVB.out, HST.out⟩]
      refine ⟨a3, c3, vs, rfl, ownsB_mono hown3 (by have := HF2.out.size; omega), ?_⟩
      rw [HFRL.out]
      exact hir)
    have HF3 := Lib.hid ((HF1.out.trans HF2.out (by simp)).trans hf3 (by simp; omega))
    clear hwr hown3 hf3 hir
    go_wp2_with fail
    go_ret
    exact ⟨HE.out, HF3.out⟩

end Go.Proofs.Ytknfdpkfomlckaa
