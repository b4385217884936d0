/- Contract of moves. -/
import Derived.Test.YtdknbgejhhoaiaaGreatQ15
import Derived.Deep.RegionLaw
namespace Go.Proofs.YtdknbgejhhoaiaaGreat.Ind
open Go.Shelf
open Go.RowKit

def PredI3 (g : Nat) (c1 c2 : Value) (p : Int → Bool) (xs : List Int) (w0 : World) : Prop := ∀ (W : World) (x : Int), x ∈ xs → Frm [] w0 W → Calls Tryz.prog g #[.int .i64 x, c1, c2] W fun e' w' => e' = .returned (.bool (p x)) ∧ Frm [] W w'
set_option maxRecDepth 100000 in
theorem idxI3_any (B g : Nat) (c1 c2 : Value) (p : Int → Bool) (eg : ∀ args w, (callFunc g args).run Tryz.prog w = .ok (.enter g args) w) (a : Option Addr) (cap : Nat) (xs : List Int) (w : World) (hp : PredI3 g c1 c2 p xs w) (h : Rd B w a xs.length cap 1 (ints xs)) :
    Calls Tryz.prog 74 #[.slice a xs.length cap, .func (.func g) #[] #[c1, c2]] w fun e w' => (∃ v : Int, e = .returned (.int .i64 v) ∧ IdxP (xs.any p) v) ∧ Frm [] w w' := by
  have l1 := h.lt
  have H := Lib.hid h
  have HP := Lib.hid hp
  clear h hp
  go_enter Tryz.func74, Tryz.ntmps74
  go_wp2_with fail
  go_loopg [8] xs.length (fun q i wr => ∃ (k : Nat), q = xs.length - k ∧ k ≤ xs.length ∧ i = .int .i64 k ∧ (xs.drop k).any p = xs.any p ∧ Frm [] w wr)
  case atStart => exact ⟨0, rfl, Nat.zero_le _, rfl, rfl, Frm.refl _ _⟩
  case round =>
    obtain ⟨k, rfl, hk, rfl, hd, hF⟩ := hrel
    have HF := Lib.hid hF
    have i4 : (0 : Int) ≤ (k : Int) := by omega
    clear hF
    by_cases hlt : k < xs.length
    · have i5 : (k : Int) < (xs.length : Int) := by omega
      obtain ⟨y, hy⟩ : ∃ y, xs[k]? = some y := ⟨_, List.getElem?_eq_getElem hlt⟩
      rw [drop_cons hy, List.any_cons] at hd
      obtain ⟨g1, o1, rfl, _, c1⟩ := H.out.at hy
      have d1 := HF.out.cell c1 (by simp)
      have hcall := HP.out wr y (List.mem_of_getElem? hy) HF.out
      clear c1 hy
      cases hpe : p y with
      | true =>
        rw [hpe] at hcall hd
        have HD : Hid (xs.any p = true) := Lib.hid (by rw [← hd]; simp)
        have HC := Lib.hid hcall
        clear hd hpe hcall
        go_wp2_with (go_at_fn g; refine HC.out.mono ?_; rintro e7 w7 ⟨rfl, hf7⟩)
        go_ret
        exact ⟨⟨_, rfl, by rw [HD.out]; exact ⟨(fun _ => by omega), (fun h9 => by cases h9)⟩⟩, HF.out.trans hf7 (by simp)⟩
      | false =>
        rw [hpe] at hcall hd
        rw [Bool.false_or] at hd
        have HD := Lib.hid hd
        have HC := Lib.hid hcall
        clear hd hpe hcall
        go_wp2_with (go_at_fn g; refine HC.out.mono ?_; rintro e7 w7 ⟨rfl, hf7⟩)
        go_roundg (xs.length - (k + 1))
        case rel => exact ⟨k + 1, rfl, by omega, by go_num, HD.out, HF.out.trans hf7 (by simp)⟩
        case measure => omega
    · have i5 : ¬ (k : Int) < (xs.length : Int) := by omega
      have HR : Hid (xs.any p = false) := Lib.hid (by rw [← hd, List.drop_eq_nil_of_le (by omega)]; rfl)
      clear hd
      go_wp2_with fail
      go_ret
      exact ⟨⟨-1, rfl, by rw [HR.out]; exact ⟨(fun h9 => by cases h9), fun _ => rfl⟩⟩, HF.out⟩

theorem containsI3_any (B g : Nat) (c1 c2 : Value) (p : Int → Bool) (eg : ∀ args w, (callFunc g args).run Tryz.prog w = .ok (.enter g args) w) (a : Option Addr) (cap : Nat) (xs : List Int) (w : World) (hp : PredI3 g c1 c2 p xs w) (h : Rd B w a xs.length cap 1 (ints xs)) :
    Calls Tryz.prog 59 #[.slice a xs.length cap, .func (.func g) #[] #[c1, c2]] w fun e w' => e = .returned (.bool (xs.any p)) ∧ Frm [] w w' := by
  have hi := idxI3_any B g c1 c2 p eg a cap xs w hp h
  have HI := Lib.hid hi
  clear hi h hp
  go_enter Tryz.func59, Tryz.ntmps59
  go_wp2_with fail
  refine HI.out.mono ?_
  rintro e1 w1 ⟨⟨v, rfl, hv⟩, hf1⟩
  obtain ⟨h1, h2⟩ := hv
  cases hr : xs.any p with
  | true =>
    have h3 := h1 hr
    have HR := Lib.hid hr
    clear h1 h2 hr HI
    go_wp2_with fail
    go_ret
    exact ⟨ret_bool (by rw [HR.out]), hf1⟩
  | false =>
    have h3 := h2 hr
    subst h3
    have HR := Lib.hid hr
    clear h1 h2 hr HI
    go_wp2_with fail
    go_ret
    exact ⟨ret_bool (by rw [HR.out]), hf1⟩

theorem evT (m : RM) (n : Int) (a : RA) (v u : Int) (h4 : a.kind ≠ 4) (h5 : a.kind ≠ 5) : evB m n a v = evB m n a u := by
  unfold evB
  simp [h4, h5]
/-- What moves hands back. -/
def MovesEnd (w : World) (l : List Mv) (e : Ending) (w' : World) : Prop :=
  (∃ ad cp, e = .returned (.slice ad l.length cp) ∧ w'.ownsRow w.heap.size 74 6 (.slice ad l.length cp) l.length (mvsC l)) ∧ Frm [] w w'
theorem four_bd {r0 r1 r2 r3 : Int} (hg : ∀ v ∈ [r0, r1, r2, r3], 0 ≤ v ∧ v < 12) (r : Int) : 0 ≤ regR [r0, r1, r2, r3] r ∧ regR [r0, r1, r2, r3] r ≤ 12 := by
  unfold regR
  cases h : [r0, r1, r2, r3][r.toNat]? with
  | none => simp
  | some v => have := hg v (List.mem_of_getElem? h); simp; omega
/-- The four boxes of moves. -/
structure Boxes (w W : World) (m : RM) (sa : Option Addr) (sn sc : Nat) (n : Int) (st r0 r1 r2 r3 : Int) (na : Option Addr) (nl nc : Nat) (a : RA) : Prop where
  frm : Frm [] w W
  caps : Caps W w.heap.size (w.heap.size + 1) (w.heap.size + 1 + 1 + 1) m sa sn sc n na nl nc a
  pl : RowAt W (w.heap.size + 1 + 1) 67 [.int .i64 st, .int .i64 r0, .int .i64 r1, .int .i64 r2, .int .i64 r3]
theorem Boxes.nil {w W W' : World} {m : RM} {sa : Option Addr} {sn sc : Nat} {n st r0 r1 r2 r3 : Int} {na : Option Addr} {nl nc : Nat} {a : RA} (h : Boxes w W m sa sn sc n st r0 r1 r2 r3 na nl nc a) (hf : Frm [] W W') : Boxes w W' m sa sn sc n st r0 r1 r2 r3 na nl nc a :=
  ⟨h.frm.trans hf (by simp), h.caps.nil hf, h.pl.frm hf (by simp)⟩
theorem boxes_made (w : World) (m : RM) (sa : Option Addr) (sn sc : Nat) (n st r0 r1 r2 r3 : Int) (na : Option Addr) (nl nc : Nat) (a : RA) :
    Boxes w ((((w.alloc (.cells #[.int .i64 m.regs, .int .i64 m.data, .int .i64 m.plain, .slice sa sn sc] 30)).alloc (.cells #[.int .i64 n] 3)).alloc (.cells #[.int .i64 st, .int .i64 r0, .int .i64 r1, .int .i64 r2, .int .i64 r3] 67)).alloc (.cells #[.int .i64 a.kind, .int .i64 a.ch, .int .i64 a.reg, .int .i64 a.frm, .slice na nl nc, .int .i64 a.to] 47)) m sa sn sc n st r0 r1 r2 r3 na nl nc a := by
  refine ⟨((((Frm.refl [] w).alloc _).alloc _).alloc _).alloc _, ⟨?_, ?_, ?_⟩, ?_⟩
  · exact (((RowAt.made w _ _ _ rfl).alloc _).alloc _).alloc _
  · have := RowAt.made (w.alloc (.cells #[.int .i64 m.regs, .int .i64 m.data, .int .i64 m.plain, .slice sa sn sc] 30)) 3 [.int .i64 n] #[.int .i64 n] rfl
    rw [show (w.alloc (.cells #[.int .i64 m.regs, .int .i64 m.data, .int .i64 m.plain, .slice sa sn sc] 30)).heap.size = w.heap.size + 1 by simp] at this
    exact (this.alloc _).alloc _
  · have := RowAt.made (((w.alloc (.cells #[.int .i64 m.regs, .int .i64 m.data, .int .i64 m.plain, .slice sa sn sc] 30)).alloc (.cells #[.int .i64 n] 3)).alloc (.cells #[.int .i64 st, .int .i64 r0, .int .i64 r1, .int .i64 r2, .int .i64 r3] 67)) 47 [.int .i64 a.kind, .int .i64 a.ch, .int .i64 a.reg, .int .i64 a.frm, .slice na nl nc, .int .i64 a.to] #[.int .i64 a.kind, .int .i64 a.ch, .int .i64 a.reg, .int .i64 a.frm, .slice na nl nc, .int .i64 a.to] rfl
    simpa using this
  · have := RowAt.made ((w.alloc (.cells #[.int .i64 m.regs, .int .i64 m.data, .int .i64 m.plain, .slice sa sn sc] 30)).alloc (.cells #[.int .i64 n] 3)) 67 [.int .i64 st, .int .i64 r0, .int .i64 r1, .int .i64 r2, .int .i64 r3] #[.int .i64 st, .int .i64 r0, .int .i64 r1, .int .i64 r2, .int .i64 r3] rfl
    have h2 : RowAt _ _ _ _ := this.alloc (.cells #[.int .i64 a.kind, .int .i64 a.ch, .int .i64 a.reg, .int .i64 a.frm, .slice na nl nc, .int .i64 a.to] 47)
    simpa using h2

set_option linter.unusedSimpArgs false in
set_option maxRecDepth 100000 in
set_option maxHeartbeats 4000000 in
theorem moves_5 {F : List Nat} (w : World) (m : RM) (sa : Option Addr) (sn sc : Nat) (n : Nat) (st r0 r1 r2 r3 : Int) (va : Value) (a : RA) (ha : NotAt w F va a) (hm : RmOk m) (hok : RaOk m a) (hn0 : 1 ≤ n) (hn1 : n ≤ 12) (hg : ∀ v ∈ [r0, r1, r2, r3], 0 ≤ v ∧ v < 12) (hk : a.kind = 5) :
    Calls Tryz.prog 31 #[machV m (.slice sa sn sc), .int .i64 n, .agg #[.int .i64 st, .int .i64 r0, .int .i64 r1, .int .i64 r2, .int .i64 r3], arcV va a] w (MovesEnd w (movesB m n (st, [r0, r1, r2, r3]) a)) := by
  obtain ⟨na, nc, rfl⟩ := RowV.shape ha
  have hno : NumOk m n a := ⟨hm.d0, hm.d1, by omega, by omega, hok.ch.1, hok.ch.2⟩
  have eg : ∀ args w, (callFunc 56 args).run Tryz.prog w = .ok (.enter 56 args) w := enters_of Tryz.func56 (by kernel_rfl) rfl
  have hl : movesB m n (st, [r0, r1, r2, r3]) a = [(evB m n a (regR [r0, r1, r2, r3] a.reg), a.to, [r0, r1, r2, r3])] := by rw [movesB, if_pos hk]
  rw [hl]
  have hval := four_bd hg a.reg
  have hreg0 := hok.reg5 (by omega)
  have hreg1 := hok.reg.2
  clear ha hm hok hn0 hn1 hg hl
  generalize hnl : a.not.length = nl at *
  generalize hnn : (n : Int) = nn at *
  have hone := fun (W : World) xm xn xa (hc : Caps W xm xn xa m sa sn sc nn na nl nc a) => one_any W hc hno (regR [r0, r1, r2, r3] a.reg) r0 r1 r2 r3 hval.1 hval.2
  have HONE := Lib.hid hone
  clear hone hno hval hnl hnn
  have hreg : a.reg = 0 ∨ a.reg = 1 ∨ a.reg = 2 ∨ a.reg = 3 := by omega
  clear hreg0 hreg1
  obtain ⟨kind, ch, reg, frm, not, tgt⟩ := a
  simp only at *
  subst hk
  rcases hreg with rfl | rfl | rfl | rfl
  · generalize hev : evB m nn ⟨5, ch, 0, frm, not, tgt⟩ (regR [r0, r1, r2, r3] 0) = ev at *
    have hr : regR [r0, r1, r2, r3] 0 = r0 := rfl
    rw [hr] at HONE
    have hbx := boxes_made w m sa sn sc nn st r0 r1 r2 r3 na nl nc ⟨5, ch, 0, frm, not, tgt⟩
    simp only at hbx
    unfold machV arcV
    simp only
    go_enter Tryz.func31, Tryz.ntmps31
    go_wp2_with fail
    generalize hW4 : World.alloc (World.alloc (World.alloc (World.alloc _ _) _) _) _ = W4 at *
    have HBX := Lib.hid hbx
    have KEEP : Hid (∀ w', Frm [] W4 w' → w'.cell? ⟨w.heap.size + 1 + 1, 0, none⟩ = some (.int .i64 st) ∧ w'.cell? ⟨w.heap.size + 1 + 1, 1, none⟩ = some (.int .i64 r0) ∧ w'.cell? ⟨w.heap.size + 1 + 1, 2, none⟩ = some (.int .i64 r1) ∧ w'.cell? ⟨w.heap.size + 1 + 1, 3, none⟩ = some (.int .i64 r2) ∧ w'.cell? ⟨w.heap.size + 1 + 1, 4, none⟩ = some (.int .i64 r3) ∧ w'.cell? ⟨w.heap.size + 1 + 1 + 1, 2, none⟩ = some (.int .i64 0) ∧ w'.cell? ⟨w.heap.size + 1 + 1 + 1, 3, none⟩ = some (.int .i64 frm)) := Lib.hid fun w' hf => by
      have hx := (HBX.out.nil hf).pl
      have hy := (HBX.out.nil hf).caps.a
      exact ⟨hx.cell (i := 0) rfl, hx.cell (i := 1) rfl, hx.cell (i := 2) rfl, hx.cell (i := 3) rfl, hx.cell (i := 4) rfl, hy.cell (i := 2) rfl, hy.cell (i := 3) rfl⟩
    clear hbx hW4
    go_region_held3 (fun w' => w'.cell? ⟨w.heap.size + 1 + 1, 0, none⟩ = some (.int .i64 st) ∧ w'.cell? ⟨w.heap.size + 1 + 1, 1, none⟩ = some (.int .i64 r0) ∧ w'.cell? ⟨w.heap.size + 1 + 1, 2, none⟩ = some (.int .i64 r1) ∧ w'.cell? ⟨w.heap.size + 1 + 1, 3, none⟩ = some (.int .i64 r2) ∧ w'.cell? ⟨w.heap.size + 1 + 1, 4, none⟩ = some (.int .i64 r3) ∧ w'.cell? ⟨w.heap.size + 1 + 1 + 1, 2, none⟩ = some (.int .i64 0) ∧ w'.cell? ⟨w.heap.size + 1 + 1 + 1, 3, none⟩ = some (.int .i64 frm))
      (first | exact KEEP.out _ (Frm.refl [] W4) | exact KEEP.out _ (Frm.refl [] W4).drew | exact KEEP.out _ hy5)
      (first | (go_at_fn 56; refine (HONE.out _ _ _ _ (HBX.out.nil (Frm.refl [] W4).drew).caps).mono ?_; rintro e5 w5 ⟨⟨g, rfl, ho⟩, hf5⟩; have hy5 := (Frm.refl [] W4).drew.trans hf5 (by simp)))
    have hsz := HBX.out.frm.size
    have hfe := HBX.out.frm.trans hy5 (by simp)
    go_wp2_with fail
    go_ret
    exact ⟨⟨_, _, rfl, ownsB_mono ho hsz⟩, hfe⟩
  · generalize hev : evB m nn ⟨5, ch, 1, frm, not, tgt⟩ (regR [r0, r1, r2, r3] 1) = ev at *
    have hr : regR [r0, r1, r2, r3] 1 = r1 := rfl
    rw [hr] at HONE
    have hbx := boxes_made w m sa sn sc nn st r0 r1 r2 r3 na nl nc ⟨5, ch, 1, frm, not, tgt⟩
    simp only at hbx
    unfold machV arcV
    simp only
    go_enter Tryz.func31, Tryz.ntmps31
    go_wp2_with fail
    generalize hW4 : World.alloc (World.alloc (World.alloc (World.alloc _ _) _) _) _ = W4 at *
    have HBX := Lib.hid hbx
    have KEEP : Hid (∀ w', Frm [] W4 w' → w'.cell? ⟨w.heap.size + 1 + 1, 0, none⟩ = some (.int .i64 st) ∧ w'.cell? ⟨w.heap.size + 1 + 1, 1, none⟩ = some (.int .i64 r0) ∧ w'.cell? ⟨w.heap.size + 1 + 1, 2, none⟩ = some (.int .i64 r1) ∧ w'.cell? ⟨w.heap.size + 1 + 1, 3, none⟩ = some (.int .i64 r2) ∧ w'.cell? ⟨w.heap.size + 1 + 1, 4, none⟩ = some (.int .i64 r3) ∧ w'.cell? ⟨w.heap.size + 1 + 1 + 1, 2, none⟩ = some (.int .i64 1) ∧ w'.cell? ⟨w.heap.size + 1 + 1 + 1, 3, none⟩ = some (.int .i64 frm)) := Lib.hid fun w' hf => by
      have hx := (HBX.out.nil hf).pl
      have hy := (HBX.out.nil hf).caps.a
      exact ⟨hx.cell (i := 0) rfl, hx.cell (i := 1) rfl, hx.cell (i := 2) rfl, hx.cell (i := 3) rfl, hx.cell (i := 4) rfl, hy.cell (i := 2) rfl, hy.cell (i := 3) rfl⟩
    clear hbx hW4
    go_region_held3 (fun w' => w'.cell? ⟨w.heap.size + 1 + 1, 0, none⟩ = some (.int .i64 st) ∧ w'.cell? ⟨w.heap.size + 1 + 1, 1, none⟩ = some (.int .i64 r0) ∧ w'.cell? ⟨w.heap.size + 1 + 1, 2, none⟩ = some (.int .i64 r1) ∧ w'.cell? ⟨w.heap.size + 1 + 1, 3, none⟩ = some (.int .i64 r2) ∧ w'.cell? ⟨w.heap.size + 1 + 1, 4, none⟩ = some (.int .i64 r3) ∧ w'.cell? ⟨w.heap.size + 1 + 1 + 1, 2, none⟩ = some (.int .i64 1) ∧ w'.cell? ⟨w.heap.size + 1 + 1 + 1, 3, none⟩ = some (.int .i64 frm))
      (first | exact KEEP.out _ (Frm.refl [] W4) | exact KEEP.out _ (Frm.refl [] W4).drew | exact KEEP.out _ hy5)
      (first | (go_at_fn 56; refine (HONE.out _ _ _ _ (HBX.out.nil (Frm.refl [] W4).drew).caps).mono ?_; rintro e5 w5 ⟨⟨g, rfl, ho⟩, hf5⟩; have hy5 := (Frm.refl [] W4).drew.trans hf5 (by simp)))
    have hsz := HBX.out.frm.size
    have hfe := HBX.out.frm.trans hy5 (by simp)
    go_wp2_with fail
    go_ret
    exact ⟨⟨_, _, rfl, ownsB_mono ho hsz⟩, hfe⟩
  · generalize hev : evB m nn ⟨5, ch, 2, frm, not, tgt⟩ (regR [r0, r1, r2, r3] 2) = ev at *
    have hr : regR [r0, r1, r2, r3] 2 = r2 := rfl
    rw [hr] at HONE
    have hbx := boxes_made w m sa sn sc nn st r0 r1 r2 r3 na nl nc ⟨5, ch, 2, frm, not, tgt⟩
    simp only at hbx
    unfold machV arcV
    simp only
    go_enter Tryz.func31, Tryz.ntmps31
    go_wp2_with fail
    generalize hW4 : World.alloc (World.alloc (World.alloc (World.alloc _ _) _) _) _ = W4 at *
    have HBX := Lib.hid hbx
    have KEEP : Hid (∀ w', Frm [] W4 w' → w'.cell? ⟨w.heap.size + 1 + 1, 0, none⟩ = some (.int .i64 st) ∧ w'.cell? ⟨w.heap.size + 1 + 1, 1, none⟩ = some (.int .i64 r0) ∧ w'.cell? ⟨w.heap.size + 1 + 1, 2, none⟩ = some (.int .i64 r1) ∧ w'.cell? ⟨w.heap.size + 1 + 1, 3, none⟩ = some (.int .i64 r2) ∧ w'.cell? ⟨w.heap.size + 1 + 1, 4, none⟩ = some (.int .i64 r3) ∧ w'.cell? ⟨w.heap.size + 1 + 1 + 1, 2, none⟩ = some (.int .i64 2) ∧ w'.cell? ⟨w.heap.size + 1 + 1 + 1, 3, none⟩ = some (.int .i64 frm)) := Lib.hid fun w' hf => by
      have hx := (HBX.out.nil hf).pl
      have hy := (HBX.out.nil hf).caps.a
      exact ⟨hx.cell (i := 0) rfl, hx.cell (i := 1) rfl, hx.cell (i := 2) rfl, hx.cell (i := 3) rfl, hx.cell (i := 4) rfl, hy.cell (i := 2) rfl, hy.cell (i := 3) rfl⟩
    clear hbx hW4
    go_region_held3 (fun w' => w'.cell? ⟨w.heap.size + 1 + 1, 0, none⟩ = some (.int .i64 st) ∧ w'.cell? ⟨w.heap.size + 1 + 1, 1, none⟩ = some (.int .i64 r0) ∧ w'.cell? ⟨w.heap.size + 1 + 1, 2, none⟩ = some (.int .i64 r1) ∧ w'.cell? ⟨w.heap.size + 1 + 1, 3, none⟩ = some (.int .i64 r2) ∧ w'.cell? ⟨w.heap.size + 1 + 1, 4, none⟩ = some (.int .i64 r3) ∧ w'.cell? ⟨w.heap.size + 1 + 1 + 1, 2, none⟩ = some (.int .i64 2) ∧ w'.cell? ⟨w.heap.size + 1 + 1 + 1, 3, none⟩ = some (.int .i64 frm))
      (first | exact KEEP.out _ (Frm.refl [] W4) | exact KEEP.out _ (Frm.refl [] W4).drew | exact KEEP.out _ hy5)
      (first | (go_at_fn 56; refine (HONE.out _ _ _ _ (HBX.out.nil (Frm.refl [] W4).drew).caps).mono ?_; rintro e5 w5 ⟨⟨g, rfl, ho⟩, hf5⟩; have hy5 := (Frm.refl [] W4).drew.trans hf5 (by simp)))
    have hsz := HBX.out.frm.size
    have hfe := HBX.out.frm.trans hy5 (by simp)
    go_wp2_with fail
    go_ret
    exact ⟨⟨_, _, rfl, ownsB_mono ho hsz⟩, hfe⟩
  · generalize hev : evB m nn ⟨5, ch, 3, frm, not, tgt⟩ (regR [r0, r1, r2, r3] 3) = ev at *
    have hr : regR [r0, r1, r2, r3] 3 = r3 := rfl
    rw [hr] at HONE
    have hbx := boxes_made w m sa sn sc nn st r0 r1 r2 r3 na nl nc ⟨5, ch, 3, frm, not, tgt⟩
    simp only at hbx
    unfold machV arcV
    simp only
    go_enter Tryz.func31, Tryz.ntmps31
    go_wp2_with fail
    generalize hW4 : World.alloc (World.alloc (World.alloc (World.alloc _ _) _) _) _ = W4 at *
    have HBX := Lib.hid hbx
    have KEEP : Hid (∀ w', Frm [] W4 w' → w'.cell? ⟨w.heap.size + 1 + 1, 0, none⟩ = some (.int .i64 st) ∧ w'.cell? ⟨w.heap.size + 1 + 1, 1, none⟩ = some (.int .i64 r0) ∧ w'.cell? ⟨w.heap.size + 1 + 1, 2, none⟩ = some (.int .i64 r1) ∧ w'.cell? ⟨w.heap.size + 1 + 1, 3, none⟩ = some (.int .i64 r2) ∧ w'.cell? ⟨w.heap.size + 1 + 1, 4, none⟩ = some (.int .i64 r3) ∧ w'.cell? ⟨w.heap.size + 1 + 1 + 1, 2, none⟩ = some (.int .i64 3) ∧ w'.cell? ⟨w.heap.size + 1 + 1 + 1, 3, none⟩ = some (.int .i64 frm)) := Lib.hid fun w' hf => by
      have hx := (HBX.out.nil hf).pl
      have hy := (HBX.out.nil hf).caps.a
      exact ⟨hx.cell (i := 0) rfl, hx.cell (i := 1) rfl, hx.cell (i := 2) rfl, hx.cell (i := 3) rfl, hx.cell (i := 4) rfl, hy.cell (i := 2) rfl, hy.cell (i := 3) rfl⟩
    clear hbx hW4
    go_region_held3 (fun w' => w'.cell? ⟨w.heap.size + 1 + 1, 0, none⟩ = some (.int .i64 st) ∧ w'.cell? ⟨w.heap.size + 1 + 1, 1, none⟩ = some (.int .i64 r0) ∧ w'.cell? ⟨w.heap.size + 1 + 1, 2, none⟩ = some (.int .i64 r1) ∧ w'.cell? ⟨w.heap.size + 1 + 1, 3, none⟩ = some (.int .i64 r2) ∧ w'.cell? ⟨w.heap.size + 1 + 1, 4, none⟩ = some (.int .i64 r3) ∧ w'.cell? ⟨w.heap.size + 1 + 1 + 1, 2, none⟩ = some (.int .i64 3) ∧ w'.cell? ⟨w.heap.size + 1 + 1 + 1, 3, none⟩ = some (.int .i64 frm))
      (first | exact KEEP.out _ (Frm.refl [] W4) | exact KEEP.out _ (Frm.refl [] W4).drew | exact KEEP.out _ hy5)
      (first | (go_at_fn 56; refine (HONE.out _ _ _ _ (HBX.out.nil (Frm.refl [] W4).drew).caps).mono ?_; rintro e5 w5 ⟨⟨g, rfl, ho⟩, hf5⟩; have hy5 := (Frm.refl [] W4).drew.trans hf5 (by simp)))
    have hsz := HBX.out.frm.size
    have hfe := HBX.out.frm.trans hy5 (by simp)
    go_wp2_with fail
    go_ret
    exact ⟨⟨_, _, rfl, ownsB_mono ho hsz⟩, hfe⟩

set_option linter.unusedSimpArgs false in
set_option maxRecDepth 100000 in
set_option maxHeartbeats 4000000 in
theorem moves_7 {F : List Nat} (w : World) (m : RM) (sa : Option Addr) (sn sc : Nat) (n : Nat) (st r0 r1 r2 r3 : Int) (va : Value) (a : RA) (ha : NotAt w F va a) (hm : RmOk m) (hok : RaOk m a) (hn0 : 1 ≤ n) (hn1 : n ≤ 12) (_hg : ∀ v ∈ [r0, r1, r2, r3], 0 ≤ v ∧ v < 12) (hk : a.kind = 7) :
    Calls Tryz.prog 31 #[machV m (.slice sa sn sc), .int .i64 n, .agg #[.int .i64 st, .int .i64 r0, .int .i64 r1, .int .i64 r2, .int .i64 r3], arcV va a] w (MovesEnd w (movesB m n (st, [r0, r1, r2, r3]) a)) := by
  obtain ⟨na, nc, rfl⟩ := RowV.shape ha
  have hno : NumOk m n a := ⟨hm.d0, hm.d1, by omega, by omega, hok.ch.1, hok.ch.2⟩
  have eg : ∀ args w, (callFunc 56 args).run Tryz.prog w = .ok (.enter 56 args) w := enters_of Tryz.func56 (by kernel_rfl) rfl
  have hl : movesB m n (st, [r0, r1, r2, r3]) a = [(evB m n a 0, a.to, setR [r0, r1, r2, r3] a.reg (regR [r0, r1, r2, r3] a.frm))] := by rw [movesB, if_neg (by omega), if_pos hk]
  rw [hl]
  obtain ⟨q0, q1, q2, q3, hq⟩ := four_ex (rs := setR [r0, r1, r2, r3] a.reg (regR [r0, r1, r2, r3] a.frm)) (by rw [setR_len]; rfl)
  have hset := fun W => set_any r0 r1 r2 r3 a.reg (regR [r0, r1, r2, r3] a.frm) W hok.reg.1 hok.reg.2
  rw [hq] at hset ⊢
  have hfrm0 := hok.frm.1
  have hfrm1 := hok.frm.2
  clear ha hm hok hn0 hn1 hl hq
  generalize hnl : a.not.length = nl at *
  generalize hnn : (n : Int) = nn at *
  have hone := fun (W : World) xm xn xa (hc : Caps W xm xn xa m sa sn sc nn na nl nc a) => one_any W hc hno 0 q0 q1 q2 q3 (by omega) (by omega)
  have HONE := Lib.hid hone
  have hset2 : ∀ W, Calls Tryz.prog 58 #[regV r0 r1 r2 r3, .int .i64 a.reg, .int .i64 (regR [r0, r1, r2, r3] a.frm)] W fun e w' => e = .returned (regV q0 q1 q2 q3) ∧ Frm [] W w' := hset
  have HSET := Lib.hid hset2
  clear hone hno hnl hnn hset hset2
  have hreg : a.frm = 0 ∨ a.frm = 1 ∨ a.frm = 2 ∨ a.frm = 3 := by omega
  clear hfrm0 hfrm1
  obtain ⟨kind, ch, reg, frm, not, tgt⟩ := a
  simp only at *
  subst hk
  unfold regV at HSET HONE
  rcases hreg with rfl | rfl | rfl | rfl
  · generalize hev : evB m nn ⟨7, ch, reg, 0, not, tgt⟩ 0 = ev at *
    have hr : regR [r0, r1, r2, r3] 0 = r0 := rfl
    rw [hr] at HSET
    have hbx := boxes_made w m sa sn sc nn st r0 r1 r2 r3 na nl nc ⟨7, ch, reg, 0, not, tgt⟩
    simp only at hbx
    unfold machV arcV
    simp only
    go_enter Tryz.func31, Tryz.ntmps31
    go_wp2_with fail
    generalize hW4 : World.alloc (World.alloc (World.alloc (World.alloc _ _) _) _) _ = W4 at *
    have HBX := Lib.hid hbx
    have KEEP : Hid (∀ w', Frm [] W4 w' → w'.cell? ⟨w.heap.size + 1 + 1, 0, none⟩ = some (.int .i64 st) ∧ w'.cell? ⟨w.heap.size + 1 + 1, 1, none⟩ = some (.int .i64 r0) ∧ w'.cell? ⟨w.heap.size + 1 + 1, 2, none⟩ = some (.int .i64 r1) ∧ w'.cell? ⟨w.heap.size + 1 + 1, 3, none⟩ = some (.int .i64 r2) ∧ w'.cell? ⟨w.heap.size + 1 + 1, 4, none⟩ = some (.int .i64 r3) ∧ w'.cell? ⟨w.heap.size + 1 + 1 + 1, 2, none⟩ = some (.int .i64 reg) ∧ w'.cell? ⟨w.heap.size + 1 + 1 + 1, 3, none⟩ = some (.int .i64 0)) := Lib.hid fun w' hf => by
      have hx := (HBX.out.nil hf).pl
      have hy := (HBX.out.nil hf).caps.a
      exact ⟨hx.cell (i := 0) rfl, hx.cell (i := 1) rfl, hx.cell (i := 2) rfl, hx.cell (i := 3) rfl, hx.cell (i := 4) rfl, hy.cell (i := 2) rfl, hy.cell (i := 3) rfl⟩
    clear hbx hW4
    go_region_held3 (fun w' => w'.cell? ⟨w.heap.size + 1 + 1, 0, none⟩ = some (.int .i64 st) ∧ w'.cell? ⟨w.heap.size + 1 + 1, 1, none⟩ = some (.int .i64 r0) ∧ w'.cell? ⟨w.heap.size + 1 + 1, 2, none⟩ = some (.int .i64 r1) ∧ w'.cell? ⟨w.heap.size + 1 + 1, 3, none⟩ = some (.int .i64 r2) ∧ w'.cell? ⟨w.heap.size + 1 + 1, 4, none⟩ = some (.int .i64 r3) ∧ w'.cell? ⟨w.heap.size + 1 + 1 + 1, 2, none⟩ = some (.int .i64 reg) ∧ w'.cell? ⟨w.heap.size + 1 + 1 + 1, 3, none⟩ = some (.int .i64 0))
      (first | exact KEEP.out _ (Frm.refl [] W4) | exact KEEP.out _ (Frm.refl [] W4).drew | exact KEEP.out _ hy6 | exact KEEP.out _ hy5)
      (first | (go_at_call 58; refine (HSET.out _).mono ?_; rintro e6 w6 ⟨rfl, hf6⟩; have hy6 := (Frm.refl [] W4).drew.trans hf6 (by simp)) | (go_at_fn 56; refine (HONE.out _ _ _ _ (HBX.out.nil hy6).caps).mono ?_; rintro e5 w5 ⟨⟨g, rfl, ho⟩, hf5⟩; have hy5 := hy6.trans hf5 (by simp)))
    have hsz := (HBX.out.frm.trans hy6 (by simp)).size
    have hfe := HBX.out.frm.trans hy5 (by simp)
    go_wp2_with fail
    go_ret
    exact ⟨⟨_, _, rfl, ownsB_mono ho hsz⟩, hfe⟩
  · generalize hev : evB m nn ⟨7, ch, reg, 1, not, tgt⟩ 0 = ev at *
    have hr : regR [r0, r1, r2, r3] 1 = r1 := rfl
    rw [hr] at HSET
    have hbx := boxes_made w m sa sn sc nn st r0 r1 r2 r3 na nl nc ⟨7, ch, reg, 1, not, tgt⟩
    simp only at hbx
    unfold machV arcV
    simp only
    go_enter Tryz.func31, Tryz.ntmps31
    go_wp2_with fail
    generalize hW4 : World.alloc (World.alloc (World.alloc (World.alloc _ _) _) _) _ = W4 at *
    have HBX := Lib.hid hbx
    have KEEP : Hid (∀ w', Frm [] W4 w' → w'.cell? ⟨w.heap.size + 1 + 1, 0, none⟩ = some (.int .i64 st) ∧ w'.cell? ⟨w.heap.size + 1 + 1, 1, none⟩ = some (.int .i64 r0) ∧ w'.cell? ⟨w.heap.size + 1 + 1, 2, none⟩ = some (.int .i64 r1) ∧ w'.cell? ⟨w.heap.size + 1 + 1, 3, none⟩ = some (.int .i64 r2) ∧ w'.cell? ⟨w.heap.size + 1 + 1, 4, none⟩ = some (.int .i64 r3) ∧ w'.cell? ⟨w.heap.size + 1 + 1 + 1, 2, none⟩ = some (.int .i64 reg) ∧ w'.cell? ⟨w.heap.size + 1 + 1 + 1, 3, none⟩ = some (.int .i64 1)) := Lib.hid fun w' hf => by
      have hx := (HBX.out.nil hf).pl
      have hy := (HBX.out.nil hf).caps.a
      exact ⟨hx.cell (i := 0) rfl, hx.cell (i := 1) rfl, hx.cell (i := 2) rfl, hx.cell (i := 3) rfl, hx.cell (i := 4) rfl, hy.cell (i := 2) rfl, hy.cell (i := 3) rfl⟩
    clear hbx hW4
    go_region_held3 (fun w' => w'.cell? ⟨w.heap.size + 1 + 1, 0, none⟩ = some (.int .i64 st) ∧ w'.cell? ⟨w.heap.size + 1 + 1, 1, none⟩ = some (.int .i64 r0) ∧ w'.cell? ⟨w.heap.size + 1 + 1, 2, none⟩ = some (.int .i64 r1) ∧ w'.cell? ⟨w.heap.size + 1 + 1, 3, none⟩ = some (.int .i64 r2) ∧ w'.cell? ⟨w.heap.size + 1 + 1, 4, none⟩ = some (.int .i64 r3) ∧ w'.cell? ⟨w.heap.size + 1 + 1 + 1, 2, none⟩ = some (.int .i64 reg) ∧ w'.cell? ⟨w.heap.size + 1 + 1 + 1, 3, none⟩ = some (.int .i64 1))
      (first | exact KEEP.out _ (Frm.refl [] W4) | exact KEEP.out _ (Frm.refl [] W4).drew | exact KEEP.out _ hy6 | exact KEEP.out _ hy5)
      (first | (go_at_call 58; refine (HSET.out _).mono ?_; rintro e6 w6 ⟨rfl, hf6⟩; have hy6 := (Frm.refl [] W4).drew.trans hf6 (by simp)) | (go_at_fn 56; refine (HONE.out _ _ _ _ (HBX.out.nil hy6).caps).mono ?_; rintro e5 w5 ⟨⟨g, rfl, ho⟩, hf5⟩; have hy5 := hy6.trans hf5 (by simp)))
    have hsz := (HBX.out.frm.trans hy6 (by simp)).size
    have hfe := HBX.out.frm.trans hy5 (by simp)
    go_wp2_with fail
    go_ret
    exact ⟨⟨_, _, rfl, ownsB_mono ho hsz⟩, hfe⟩
  · generalize hev : evB m nn ⟨7, ch, reg, 2, not, tgt⟩ 0 = ev at *
    have hr : regR [r0, r1, r2, r3] 2 = r2 := rfl
    rw [hr] at HSET
    have hbx := boxes_made w m sa sn sc nn st r0 r1 r2 r3 na nl nc ⟨7, ch, reg, 2, not, tgt⟩
    simp only at hbx
    unfold machV arcV
    simp only
    go_enter Tryz.func31, Tryz.ntmps31
    go_wp2_with fail
    generalize hW4 : World.alloc (World.alloc (World.alloc (World.alloc _ _) _) _) _ = W4 at *
    have HBX := Lib.hid hbx
    have KEEP : Hid (∀ w', Frm [] W4 w' → w'.cell? ⟨w.heap.size + 1 + 1, 0, none⟩ = some (.int .i64 st) ∧ w'.cell? ⟨w.heap.size + 1 + 1, 1, none⟩ = some (.int .i64 r0) ∧ w'.cell? ⟨w.heap.size + 1 + 1, 2, none⟩ = some (.int .i64 r1) ∧ w'.cell? ⟨w.heap.size + 1 + 1, 3, none⟩ = some (.int .i64 r2) ∧ w'.cell? ⟨w.heap.size + 1 + 1, 4, none⟩ = some (.int .i64 r3) ∧ w'.cell? ⟨w.heap.size + 1 + 1 + 1, 2, none⟩ = some (.int .i64 reg) ∧ w'.cell? ⟨w.heap.size + 1 + 1 + 1, 3, none⟩ = some (.int .i64 2)) := Lib.hid fun w' hf => by
      have hx := (HBX.out.nil hf).pl
      have hy := (HBX.out.nil hf).caps.a
      exact ⟨hx.cell (i := 0) rfl, hx.cell (i := 1) rfl, hx.cell (i := 2) rfl, hx.cell (i := 3) rfl, hx.cell (i := 4) rfl, hy.cell (i := 2) rfl, hy.cell (i := 3) rfl⟩
    clear hbx hW4
    go_region_held3 (fun w' => w'.cell? ⟨w.heap.size + 1 + 1, 0, none⟩ = some (.int .i64 st) ∧ w'.cell? ⟨w.heap.size + 1 + 1, 1, none⟩ = some (.int .i64 r0) ∧ w'.cell? ⟨w.heap.size + 1 + 1, 2, none⟩ = some (.int .i64 r1) ∧ w'.cell? ⟨w.heap.size + 1 + 1, 3, none⟩ = some (.int .i64 r2) ∧ w'.cell? ⟨w.heap.size + 1 + 1, 4, none⟩ = some (.int .i64 r3) ∧ w'.cell? ⟨w.heap.size + 1 + 1 + 1, 2, none⟩ = some (.int .i64 reg) ∧ w'.cell? ⟨w.heap.size + 1 + 1 + 1, 3, none⟩ = some (.int .i64 2))
      (first | exact KEEP.out _ (Frm.refl [] W4) | exact KEEP.out _ (Frm.refl [] W4).drew | exact KEEP.out _ hy6 | exact KEEP.out _ hy5)
      (first | (go_at_call 58; refine (HSET.out _).mono ?_; rintro e6 w6 ⟨rfl, hf6⟩; have hy6 := (Frm.refl [] W4).drew.trans hf6 (by simp)) | (go_at_fn 56; refine (HONE.out _ _ _ _ (HBX.out.nil hy6).caps).mono ?_; rintro e5 w5 ⟨⟨g, rfl, ho⟩, hf5⟩; have hy5 := hy6.trans hf5 (by simp)))
    have hsz := (HBX.out.frm.trans hy6 (by simp)).size
    have hfe := HBX.out.frm.trans hy5 (by simp)
    go_wp2_with fail
    go_ret
    exact ⟨⟨_, _, rfl, ownsB_mono ho hsz⟩, hfe⟩
  · generalize hev : evB m nn ⟨7, ch, reg, 3, not, tgt⟩ 0 = ev at *
    have hr : regR [r0, r1, r2, r3] 3 = r3 := rfl
    rw [hr] at HSET
    have hbx := boxes_made w m sa sn sc nn st r0 r1 r2 r3 na nl nc ⟨7, ch, reg, 3, not, tgt⟩
    simp only at hbx
    unfold machV arcV
    simp only
    go_enter Tryz.func31, Tryz.ntmps31
    go_wp2_with fail
    generalize hW4 : World.alloc (World.alloc (World.alloc (World.alloc _ _) _) _) _ = W4 at *
    have HBX := Lib.hid hbx
    have KEEP : Hid (∀ w', Frm [] W4 w' → w'.cell? ⟨w.heap.size + 1 + 1, 0, none⟩ = some (.int .i64 st) ∧ w'.cell? ⟨w.heap.size + 1 + 1, 1, none⟩ = some (.int .i64 r0) ∧ w'.cell? ⟨w.heap.size + 1 + 1, 2, none⟩ = some (.int .i64 r1) ∧ w'.cell? ⟨w.heap.size + 1 + 1, 3, none⟩ = some (.int .i64 r2) ∧ w'.cell? ⟨w.heap.size + 1 + 1, 4, none⟩ = some (.int .i64 r3) ∧ w'.cell? ⟨w.heap.size + 1 + 1 + 1, 2, none⟩ = some (.int .i64 reg) ∧ w'.cell? ⟨w.heap.size + 1 + 1 + 1, 3, none⟩ = some (.int .i64 3)) := Lib.hid fun w' hf => by
      have hx := (HBX.out.nil hf).pl
      have hy := (HBX.out.nil hf).caps.a
      exact ⟨hx.cell (i := 0) rfl, hx.cell (i := 1) rfl, hx.cell (i := 2) rfl, hx.cell (i := 3) rfl, hx.cell (i := 4) rfl, hy.cell (i := 2) rfl, hy.cell (i := 3) rfl⟩
    clear hbx hW4
    go_region_held3 (fun w' => w'.cell? ⟨w.heap.size + 1 + 1, 0, none⟩ = some (.int .i64 st) ∧ w'.cell? ⟨w.heap.size + 1 + 1, 1, none⟩ = some (.int .i64 r0) ∧ w'.cell? ⟨w.heap.size + 1 + 1, 2, none⟩ = some (.int .i64 r1) ∧ w'.cell? ⟨w.heap.size + 1 + 1, 3, none⟩ = some (.int .i64 r2) ∧ w'.cell? ⟨w.heap.size + 1 + 1, 4, none⟩ = some (.int .i64 r3) ∧ w'.cell? ⟨w.heap.size + 1 + 1 + 1, 2, none⟩ = some (.int .i64 reg) ∧ w'.cell? ⟨w.heap.size + 1 + 1 + 1, 3, none⟩ = some (.int .i64 3))
      (first | exact KEEP.out _ (Frm.refl [] W4) | exact KEEP.out _ (Frm.refl [] W4).drew | exact KEEP.out _ hy6 | exact KEEP.out _ hy5)
      (first | (go_at_call 58; refine (HSET.out _).mono ?_; rintro e6 w6 ⟨rfl, hf6⟩; have hy6 := (Frm.refl [] W4).drew.trans hf6 (by simp)) | (go_at_fn 56; refine (HONE.out _ _ _ _ (HBX.out.nil hy6).caps).mono ?_; rintro e5 w5 ⟨⟨g, rfl, ho⟩, hf5⟩; have hy5 := hy6.trans hf5 (by simp)))
    have hsz := (HBX.out.frm.trans hy6 (by simp)).size
    have hfe := HBX.out.frm.trans hy5 (by simp)
    go_wp2_with fail
    go_ret
    exact ⟨⟨_, _, rfl, ownsB_mono ho hsz⟩, hfe⟩

set_option linter.unusedSimpArgs false in
set_option maxRecDepth 100000 in
set_option maxHeartbeats 4000000 in
theorem moves_0 {F : List Nat} (w : World) (m : RM) (sa : Option Addr) (sn sc : Nat) (n : Nat) (st r0 r1 r2 r3 : Int) (va : Value) (a : RA) (ha : NotAt w F va a) (hm : RmOk m) (hok : RaOk m a) (hn0 : 1 ≤ n) (hn1 : n ≤ 12) (_hg : ∀ v ∈ [r0, r1, r2, r3], 0 ≤ v ∧ v < 12) (hk : a.kind ≠ 4 ∧ a.kind ≠ 5 ∧ a.kind ≠ 6 ∧ a.kind ≠ 7) :
    Calls Tryz.prog 31 #[machV m (.slice sa sn sc), .int .i64 n, .agg #[.int .i64 st, .int .i64 r0, .int .i64 r1, .int .i64 r2, .int .i64 r3], arcV va a] w (MovesEnd w (movesB m n (st, [r0, r1, r2, r3]) a)) := by
  obtain ⟨na, nc, rfl⟩ := RowV.shape ha
  have hno : NumOk m n a := ⟨hm.d0, hm.d1, by omega, by omega, hok.ch.1, hok.ch.2⟩
  have eg : ∀ args w, (callFunc 56 args).run Tryz.prog w = .ok (.enter 56 args) w := enters_of Tryz.func56 (by kernel_rfl) rfl
  have hl : movesB m n (st, [r0, r1, r2, r3]) a = [(evB m n a 0, a.to, [r0, r1, r2, r3])] := by rw [movesB, if_neg hk.2.1, if_neg hk.2.2.2, if_neg (by omega)]
  rw [hl]
  clear ha hm hok hn0 hn1 hl
  generalize hnl : a.not.length = nl at *
  generalize hnn : (n : Int) = nn at *
  have hone := fun (W : World) xm xn xa (hc : Caps W xm xn xa m sa sn sc nn na nl nc a) => one_any W hc hno 0 r0 r1 r2 r3 (by omega) (by omega)
  have HONE := Lib.hid hone
  clear hone hno hnl hnn
  obtain ⟨k4, k5, k6, k7⟩ := hk
  obtain ⟨kind, ch, reg, frm, not, tgt⟩ := a
  simp only at *
  have j4 : (kind == 4) = false := by simpa using k4
  have j5 : (kind == 5) = false := by simpa using k5
  have j6 : (kind == 6) = false := by simpa using k6
  have j7 : (kind == 7) = false := by simpa using k7
  unfold regV at HONE
  have hbx := boxes_made w m sa sn sc nn st r0 r1 r2 r3 na nl nc ⟨kind, ch, reg, frm, not, tgt⟩
  have HBX := Lib.hid hbx
  simp only at HBX
  clear hbx
  generalize hev : evB m nn ⟨kind, ch, reg, frm, not, tgt⟩ 0 = ev at *
  unfold machV arcV
  simp only
  go_enter Tryz.func31, Tryz.ntmps31
  go_wp2_with (go_at_fn 56; refine (HONE.out _ _ _ _ HBX.out.caps).mono ?_; rintro e5 w5 ⟨⟨g, rfl, ho⟩, hf5⟩)
  go_ret
  exact ⟨⟨_, _, rfl, ownsB_mono ho HBX.out.frm.size⟩, HBX.out.frm.trans hf5 (by simp)⟩

end Go.Proofs.YtdknbgejhhoaiaaGreat.Ind
