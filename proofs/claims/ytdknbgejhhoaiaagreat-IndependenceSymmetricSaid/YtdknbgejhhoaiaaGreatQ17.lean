/- Texts KF, KG. -/
import Derived.Test.YtdknbgejhhoaiaaGreatQ16
/- Contract of moves, at an input and at a choice; all kinds together. -/
namespace Go.Proofs.YtdknbgejhhoaiaaGreat.Ind
open Go.Shelf
open Go.RowKit

/-- The arcs for the values below k. -/
def mvK (m : RM) (n : Nat) (rs : List Int) (a : RA) (k : Nat) : List Mv := (((List.range k).map Int.ofNat).filter (freeB a rs)).map fun v => (evB m n a v, a.to, setR rs a.reg v)
theorem mvK_zero (m : RM) (n : Nat) (rs : List Int) (a : RA) : mvK m n rs a 0 = [] := rfl
theorem mvK_succ (m : RM) (n : Nat) (rs : List Int) (a : RA) (k : Nat) : mvK m n rs a (k + 1) = mvK m n rs a k ++ if freeB a rs k = true then [(evB m n a k, a.to, setR rs a.reg k)] else [] := by
  unfold mvK
  rw [List.range_succ, List.map_append, List.filter_append, List.map_append]
  congr 1
  show List.map _ (List.filter _ [(k : Int)]) = _
  cases h : freeB a rs k <;> simp [h]
theorem mvK_len (m : RM) (n : Nat) (rs : List Int) (a : RA) (k : Nat) : (mvK m n rs a k).length ≤ k := by
  unfold mvK
  rw [List.length_map]
  exact Nat.le_trans (List.length_filter_le _ _) (by simp)
theorem mvK_four (m : RM) (n : Nat) (rs : List Int) (a : RA) (k : Nat) (h : rs.length = 4) : ∀ x ∈ mvK m n rs a k, x.2.2.length = 4 := by
  intro x hx
  unfold mvK at hx
  obtain ⟨v, _, rfl⟩ := List.mem_map.1 hx
  show (setR rs a.reg v).length = 4
  rw [setR_len, h]

set_option linter.unusedSimpArgs false in
set_option maxRecDepth 100000 in
set_option maxHeartbeats 8000000 in
theorem moves_46 {F : List Nat} (w : World) (m : RM) (sa : Option Addr) (sn sc : Nat) (n : Nat) (st r0 r1 r2 r3 : Int) (va : Value) (a : RA) (ha : NotAt w F va a) (hm : RmOk m) (hok : RaOk m a) (hn0 : 1 ≤ n) (hn1 : n ≤ 12) (hk : a.kind = 4 ∨ a.kind = 6) :
    Calls Tryz.prog 31 #[machV m (.slice sa sn sc), .int .i64 n, .agg #[.int .i64 st, .int .i64 r0, .int .i64 r1, .int .i64 r2, .int .i64 r3], arcV va a] w (MovesEnd w (movesB m n (st, [r0, r1, r2, r3]) a)) := by
  obtain ⟨na, nc, rfl⟩ := RowV.shape ha
  have hno : NumOk m n a := ⟨hm.d0, hm.d1, by omega, by omega, hok.ch.1, hok.ch.2⟩
  have eg : ∀ args w, (callFunc 56 args).run Tryz.prog w = .ok (.enter 56 args) w := enters_of Tryz.func56 (by kernel_rfl) rfl
  have eg2 : ∀ args w, (callFunc 60 args).run Tryz.prog w = .ok (.enter 60 args) w := enters_of Tryz.func60 (by kernel_rfl) rfl
  have hl : movesB m n (st, [r0, r1, r2, r3]) a = mvK m n [r0, r1, r2, r3] a n := by
    rw [movesB, if_neg (by omega), if_neg (by omega), if_pos hk]
    rfl
  rw [hl]
  have hrd := ha.rd
  have HNOT := Lib.hid hok.not
  have HNO := Lib.hid hno
  have HREG := Lib.hid hok.reg
  have hbx := boxes_made w m sa sn sc n st r0 r1 r2 r3 na a.not.length nc a
  have HONE : Hid (∀ (W : World) (xm xn xa : Nat) (val q0 q1 q2 q3 : Int), Caps W xm xn xa m sa sn sc n na a.not.length nc a → 0 ≤ val → val ≤ 12 → Calls Tryz.prog 56 #[.int .i64 val, regV q0 q1 q2 q3, .pointer (some ⟨xm, 0, none⟩), .pointer (some ⟨xn, 0, none⟩), .pointer (some ⟨xa, 0, none⟩)] W
      fun e w' => (∃ g, e = .returned (.slice (some ⟨g, 0, none⟩) 1 1) ∧ w'.ownsRow W.heap.size 74 6 (.slice (some ⟨g, 0, none⟩) 1 1) 1 (mvC (evB m n a val, a.to, [q0, q1, q2, q3]))) ∧ Frm [] W w') := Lib.hid fun W xm xn xa val q0 q1 q2 q3 hc h1 h2 => one_any W hc hno val q0 q1 q2 q3 h1 h2
  have HSUCC := Lib.hid (mvK_succ m n [r0, r1, r2, r3] a)
  have HLEN := Lib.hid (mvK_len m n [r0, r1, r2, r3] a)
  have HN1 := Lib.hid hn1
  have i1 : (n : Int) ≤ 12 := by omega
  have HRD := Lib.hid (hrd.frm hbx.frm (by simp))
  clear ha hm hok hn0 hn1 hl hno hrd
  have hj5 : (a.kind == 5) = false := by rcases hk with h | h <;> rw [h] <;> rfl
  have hj7 : (a.kind == 7) = false := by rcases hk with h | h <;> rw [h] <;> rfl
  have hor : (a.kind == 4) = true ∨ ((a.kind == 4) = false ∧ (a.kind == 6) = true) := by rcases hk with h | h <;> rw [h] <;> decide
  clear hk
  unfold regV at HONE
  have HBX := Lib.hid hbx
  clear hbx
  unfold machV arcV
  go_enter Tryz.func31, Tryz.ntmps31
  rcases hor with j4 | ⟨j4, j6⟩
  all_goals
    go_wp2_with fail
    generalize hW4 : World.alloc (World.alloc (World.alloc (World.alloc _ _) _) _) _ = W4 at *
    clear hW4
    have HE := Lib.hid eg
    have HE2 := Lib.hid eg2
    go_loopg [10, 44] n (fun q t10 i wr => ∃ (k : Nat) (ad : Option Addr) (cp : Nat), q = n - k ∧ k ≤ n ∧ i = .int .i64 k ∧ t10 = .slice ad (mvK m n [r0, r1, r2, r3] a k).length cp ∧ wr.ownsRow W4.heap.size 74 6 (.slice ad (mvK m n [r0, r1, r2, r3] a k).length cp) (mvK m n [r0, r1, r2, r3] a k).length (mvsC (mvK m n [r0, r1, r2, r3] a k)) ∧ Frm [] W4 wr)
    case atStart => exact ⟨0, none, 0, rfl, Nat.zero_le _, rfl, rfl, ⟨rfl, .inl ⟨rfl, rfl⟩⟩, Frm.refl _ _⟩
    case round =>
      obtain ⟨k, ad, cp, rfl, hkn, rfl, rfl, hown, hF⟩ := hrel
      have HF := Lib.hid hF
      have HO := Lib.hid hown
      have i4 : (0 : Int) ≤ (k : Int) := by omega
      clear hF hown
      by_cases hlt : k < n
      · have i5 : (k : Int) < (n : Int) := by omega
        have hsuc := HSUCC.out k
        have hlk := HLEN.out k
        obtain ⟨xv, hxv⟩ : ∃ xv, xv = wr.heap.size := ⟨_, rfl⟩
        have HXV := Lib.hid hxv
        have HB4 := HBX.out.nil HF.out
        have ca := HB4.caps.a
        have p4 := ca.cell (i := 4) rfl
        have hx4 : w.heap.size + 1 + 1 + 1 < wr.heap.size := ca.lt
        have f13 : Frm [] wr (wr.alloc (.cells #[.int .i64 k] 3)) := (Frm.refl [] wr).alloc _
        have hbox := RowAt.made wr 3 [.int .i64 k] #[.int .i64 k] rfl
        have hcon : ∀ W, Frm [] (wr.alloc (.cells #[.int .i64 k] 3)) W → Calls Tryz.prog 59 #[.slice na a.not.length nc, .func (.func 60) #[] #[.pointer (some ⟨w.heap.size + 1 + 1, 0, none⟩), .pointer (some ⟨wr.heap.size, 0, none⟩)]] W fun e w' => e = .returned (.bool (a.not.any fun r => decide (regR [r0, r1, r2, r3] r = k))) ∧ Frm [] W w' := fun W hW =>
          containsI3_any _ 60 _ _ (fun r => decide (regR [r0, r1, r2, r3] r = k)) HE2.out na nc a.not W (fun W2 r hr hW2 => by
            have hf := hW.trans hW2 (by simp)
            exact taken_any W2 _ _ st r0 r1 r2 r3 k r ((HB4.nil f13).nil hf).pl (hbox.frm hf (by simp)) (HNOT.out r hr).1 (HNOT.out r hr).2) (HRD.out.frm ((HF.out.trans f13 (by simp)).trans hW (by simp)) (by simp))
        have HCON := Lib.hid hcon
        have HBOX := Lib.hid hbox
        have HP4 := Lib.hid HB4
        have HLK := Lib.hid hlk
        clear hcon hbox HB4 ca hlk hxv
        have hfree : freeB a [r0, r1, r2, r3] k = !(a.not.any fun r => decide (regR [r0, r1, r2, r3] r = k)) := rfl
        cases hany : (a.not.any fun r => decide (regR [r0, r1, r2, r3] r = k)) with
        | true =>
          rw [hany] at hfree HCON
          rw [hfree] at hsuc
          have HS : Hid (mvK m n [r0, r1, r2, r3] a (k + 1) = mvK m n [r0, r1, r2, r3] a k) := Lib.hid (by rw [hsuc]; simp)
          have HF13 := Lib.hid f13
          clear hsuc hfree hany f13
          go_wp2_with fail
          refine (HCON.out _ (Frm.refl [] _)).mono ?_
          rintro e6 w6 ⟨rfl, hf6⟩
          go_wp2_with fail
          go_roundg (n - (k + 1))
          case rel => exact ⟨k + 1, ad, cp, rfl, by omega, by go_num, by rw [HS.out], by rw [HS.out]; exact ownsB_frm HO.out (HF13.out.trans hf6 (by simp)) (by simp), (HF.out.trans HF13.out (by simp)).trans hf6 (by simp)⟩
          case measure => omega
        | false =>
          rw [hany] at hfree HCON
          rw [hfree] at hsuc
          have HS : Hid (mvK m n [r0, r1, r2, r3] a (k + 1) = mvK m n [r0, r1, r2, r3] a k ++ [(evB m n a k, a.to, setR [r0, r1, r2, r3] a.reg k)]) := Lib.hid (by rw [hsuc]; simp)
          obtain ⟨q0, q1, q2, q3, hq⟩ := four_ex (rs := setR [r0, r1, r2, r3] a.reg k) (by rw [setR_len]; rfl)
          have hset : ∀ W, Calls Tryz.prog 58 #[regV r0 r1 r2 r3, .int .i64 a.reg, .int .i64 k] W fun e w' => e = .returned (regV q0 q1 q2 q3) ∧ Frm [] W w' := fun W => by
            have := set_any r0 r1 r2 r3 a.reg k W HREG.out.1 HREG.out.2
            rw [hq] at this
            exact this
          rw [hq] at HS
          unfold regV at hset
          have HSET := Lib.hid hset
          have HF13 := Lib.hid f13
          clear hsuc hfree hany f13 hset hq
          go_wp2_with fail
          refine (HCON.out _ (Frm.refl [] _)).mono ?_
          rintro e6 w6 ⟨rfl, hf6⟩
          have FW := Lib.hid (HF13.out.trans hf6 (by simp))
          have BX6 := Lib.hid (HBOX.out.frm hf6 (by simp))
          have PX6 := Lib.hid (HP4.out.nil FW.out)
          have OW6 := Lib.hid (ownsB_frm HO.out FW.out (by simp))
          have xlt : wr.heap.size < w6.heap.size := BX6.out.lt
          have SZ4 := Lib.hid HF.out.size
          have HOWN : Hid (∀ x ∈ (Value.slice ad (mvK m n [r0, r1, r2, r3] a k).length cp).ownBlock.toList, W4.heap.size ≤ x ∧ x < wr.heap.size) := Lib.hid fun x hx => HO.out.lt x (by simpa using hx)
          clear hf6
          go_wp2_with fail
          have x4lt : Hid (w.heap.size + 1 + 1 + 1 < W4.heap.size) := Lib.hid HBX.out.caps.a.lt
          rw [← HXV.out]
          have KEEP : Hid (∀ (fp : List Nat) (w' : World), Frm fp w6 w' → (∀ x ∈ fp, W4.heap.size ≤ x ∧ x ≠ xv) → w'.cell? ⟨w.heap.size + 1 + 1, 0, none⟩ = some (.int .i64 st) ∧ w'.cell? ⟨w.heap.size + 1 + 1, 1, none⟩ = some (.int .i64 r0) ∧ w'.cell? ⟨w.heap.size + 1 + 1, 2, none⟩ = some (.int .i64 r1) ∧ w'.cell? ⟨w.heap.size + 1 + 1, 3, none⟩ = some (.int .i64 r2) ∧ w'.cell? ⟨w.heap.size + 1 + 1, 4, none⟩ = some (.int .i64 r3) ∧ w'.cell? ⟨w.heap.size + 1 + 1 + 1, 2, none⟩ = some (.int .i64 a.reg) ∧ w'.cell? ⟨xv, 0, none⟩ = some (.int .i64 k)) := Lib.hid fun fp w' hf hfp => by
            have hx := PX6.out.pl.frm hf (fun hm => by have := (hfp _ hm).1; have := x4lt.out; omega)
            have hy := PX6.out.caps.a.frm hf (fun hm => by have := (hfp _ hm).1; have := x4lt.out; omega)
            have hz := BX6.out.frm hf (fun hm => (hfp _ hm).2 HXV.out.symm)
            rw [← HXV.out] at hz
            exact ⟨hx.cell (i := 0) rfl, hx.cell (i := 1) rfl, hx.cell (i := 2) rfl, hx.cell (i := 3) rfl, hx.cell (i := 4) rfl, hy.cell (i := 2) rfl, hz.cell (i := 0) rfl⟩
          go_region_held3 (fun w' => w'.cell? ⟨w.heap.size + 1 + 1, 0, none⟩ = some (.int .i64 st) ∧ w'.cell? ⟨w.heap.size + 1 + 1, 1, none⟩ = some (.int .i64 r0) ∧ w'.cell? ⟨w.heap.size + 1 + 1, 2, none⟩ = some (.int .i64 r1) ∧ w'.cell? ⟨w.heap.size + 1 + 1, 3, none⟩ = some (.int .i64 r2) ∧ w'.cell? ⟨w.heap.size + 1 + 1, 4, none⟩ = some (.int .i64 r3) ∧ w'.cell? ⟨w.heap.size + 1 + 1 + 1, 2, none⟩ = some (.int .i64 a.reg) ∧ w'.cell? ⟨xv, 0, none⟩ = some (.int .i64 k))
            (first | exact KEEP.out [] _ (Frm.refl [] w6) (by simp) | exact KEEP.out [] _ (Frm.refl [] w6).drew (by simp) | exact KEEP.out [] _ hy7 (by simp) | exact KEEP.out [] _ hy8 (by simp) | exact KEEP.out _ _ hy9 hz9)
            (first
              | (go_at_call 58; refine (HSET.out _).mono ?_; rintro e7 w7 ⟨rfl, hf7⟩; have hy7 := (Frm.refl [] w6).drew.trans hf7 (by simp))
              | (go_at_fn 56; refine (HONE.out _ _ _ _ _ _ _ _ _ (PX6.out.nil hy7).caps (by omega) (by omega)).mono ?_; rintro e8 w8 ⟨⟨g, rfl, ho8⟩, hf8⟩; have hy8 := hy7.trans hf8 (by simp))
              | (refine step_app_row rfl (.tmp 52) (.tmp 61) 70 74 _ 6 48 rfl Tryz.underlying70 infoMv rfl (by decide) (by decide) W4.heap.size (mvK m n [r0, r1, r2, r3] a k).length _ _ rfl (ownsB_frm OW6.out hy8 (by simp)) _ 1 (mvC (evB m n a k, a.to, [q0, q1, q2, q3])) (Value.slice ad (mvK m n [r0, r1, r2, r3] a k).length cp).ownBlock.toList rfl (rowV_new ho8 (fun x hx => by have := HOWN.out x hx; have := hy7.size; have := FW.out.size; omega)) (fun u hu => mvsC_one [(evB m n a k, a.to, [q0, q1, q2, q3])] u (by simpa [mvsC] using hu)) ((mvK m n [r0, r1, r2, r3] a k).length + 1) rfl (by have := HLK.out; omega) (by have := SZ4.out; have := FW.out.size; have := hy8.size; omega) ?_; intro a9 c9 w9 own9 hf9; have hy9 : Frm (Value.slice ad (mvK m n [r0, r1, r2, r3] a k).length cp).ownBlock.toList w6 w9 := (hy8.mono (by simp)).trans hf9 (fun x hx => .inl hx); have hz9 : ∀ x ∈ (Value.slice ad (mvK m n [r0, r1, r2, r3] a k).length cp).ownBlock.toList, W4.heap.size ≤ x ∧ x ≠ xv := fun x hx => by have := HOWN.out x hx; have := HXV.out; omega))
          go_wp2_with fail
          have F9 := ((HF.out.trans FW.out (by simp)).mono (fq := (Value.slice ad (mvK m n [r0, r1, r2, r3] a k).length cp).ownBlock.toList) (by simp)).trans hy9 (fun x hx => .inl hx)
          have F10 := Lib.hid ((HF.out.trans FW.out (by simp)).trans hy9 (fun x hx => .inr (HOWN.out x hx).1))
          have O9 := Lib.hid own9
          clear hy7 hy8 hy9 hz9 own9 hf7 hf8 hf9 ho8 F9
          go_roundg (n - (k + 1))
          case rel =>
            refine ⟨k + 1, a9, c9, rfl, by omega, by go_num, by rw [HS.out]; simp, ?_, F10.out⟩
            have := O9.out
            rw [HS.out, mvsC_app, List.length_append]
            simpa [mvsC] using this
          case measure => omega
      · have i5 : ¬ (k : Int) < (n : Int) := by omega
        have hkk : k = n := by omega
        subst hkk
        go_wp2_with fail
        go_ret
        exact ⟨⟨_, _, rfl, ownsB_mono HO.out HBX.out.frm.size⟩, HBX.out.frm.trans HF.out (by simp)⟩

theorem moves_any {F : List Nat} (w : World) (m : RM) (sa : Option Addr) (sn sc : Nat) (n : Nat) (st r0 r1 r2 r3 : Int) (va : Value) (a : RA) (ha : NotAt w F va a) (hm : RmOk m) (hok : RaOk m a) (hn0 : 1 ≤ n) (hn1 : n ≤ 12) (hg : ∀ v ∈ [r0, r1, r2, r3], 0 ≤ v ∧ v < 12) :
    Calls Tryz.prog 31 #[machV m (.slice sa sn sc), .int .i64 n, .agg #[.int .i64 st, .int .i64 r0, .int .i64 r1, .int .i64 r2, .int .i64 r3], arcV va a] w (MovesEnd w (movesB m n (st, [r0, r1, r2, r3]) a)) := by
  by_cases h46 : a.kind = 4 ∨ a.kind = 6
  · exact moves_46 w m sa sn sc n st r0 r1 r2 r3 va a ha hm hok hn0 hn1 h46
  · by_cases h5 : a.kind = 5
    · exact moves_5 w m sa sn sc n st r0 r1 r2 r3 va a ha hm hok hn0 hn1 hg h5
    · by_cases h7 : a.kind = 7
      · exact moves_7 w m sa sn sc n st r0 r1 r2 r3 va a ha hm hok hn0 hn1 hg h7
      · exact moves_0 w m sa sn sc n st r0 r1 r2 r3 va a ha hm hok hn0 hn1 hg ⟨by omega, h5, by omega, h7⟩

end Go.Proofs.YtdknbgejhhoaiaaGreat.Ind

/- Contracts of cmp.Compare, slices.Compare, cmp.Or, and of the comparisons of Instance. -/
namespace Go.Proofs.YtdknbgejhhoaiaaGreat.Ind
open Go.Shelf
open Go.RowKit

def cmpI (x y : Int) : Int := if x < y then -1 else if y < x then 1 else 0
theorem nan_any (x : Int) (w : World) : Calls Tryz.prog 65 #[.int .i64 x] w fun e w' => e = .returned (.bool false) ∧ w = w' := by
  have hx : (x != x) = false := by simp
  go_enter Tryz.func65, Tryz.ntmps65
  go_wp2
  go_ret
  exact ⟨rfl, rfl⟩
theorem cmpI_any (x y : Int) (w : World) : Calls Tryz.prog 39 #[.int .i64 x, .int .i64 y] w fun e w' => e = .returned (.int .i64 (cmpI x y)) ∧ w = w' := by
  rcases (show x < y ∨ y < x ∨ x = y by omega) with h | h | h
  · have H : Hid (cmpI x y = -1) := if_pos h
    go_enter Tryz.func39, Tryz.ntmps39
    go_wp2_with (go_at_call 65; refine (nan_any _ _).mono ?_; rintro e w1 ⟨rfl, rfl⟩)
    go_ret
    exact ⟨by rw [H.out]; rfl, rfl⟩
  · have h' : ¬ x < y := by omega
    have H : Hid (cmpI x y = 1) := (if_neg h').trans (if_pos h)
    go_enter Tryz.func39, Tryz.ntmps39
    go_wp2_with (go_at_call 65; refine (nan_any _ _).mono ?_; rintro e w1 ⟨rfl, rfl⟩)
    go_ret
    exact ⟨by rw [H.out]; rfl, rfl⟩
  · subst h
    have h' : ¬ x < x := by omega
    have H : Hid (cmpI x x = 0) := (if_neg h').trans (if_neg h')
    go_enter Tryz.func39, Tryz.ntmps39
    go_wp2_with (go_at_call 65; refine (nan_any _ _).mono ?_; rintro e w1 ⟨rfl, rfl⟩)
    go_ret
    exact ⟨by rw [H.out]; rfl, rfl⟩

/-- slices.Compare. -/
def cmpL : List Int → List Int → Int
  | [], [] => 0
  | [], _ :: _ => -1
  | _ :: _, [] => 1
  | a :: r, b :: s => if cmpI a b = 0 then cmpL r s else cmpI a b
set_option maxRecDepth 100000 in
theorem cmpL_any (B : Nat) (a b : Option Addr) (ca cb : Nat) (xs ys : List Int) (w : World) (h1 : Rd B w a xs.length ca 1 (ints xs)) (h2 : Rd B w b ys.length cb 1 (ints ys)) :
    Calls Tryz.prog 63 #[.slice a xs.length ca, .slice b ys.length cb] w fun e w' => e = .returned (.int .i64 (cmpL xs ys)) ∧ w = w' := by
  have l1 := h1.lt
  have l2 := h2.lt
  obtain ⟨R, hR⟩ : ∃ R, cmpL xs ys = R := ⟨_, rfl⟩
  rw [hR]
  have HR := Lib.hid hR
  have H1 := Lib.hid h1
  have H2 := Lib.hid h2
  clear h1 h2 hR
  go_enter Tryz.func63, Tryz.ntmps63
  go_wp2_with fail
  go_loopg [11] xs.length (fun q i wr => ∃ (k : Nat), q = xs.length - k ∧ k ≤ xs.length ∧ k ≤ ys.length ∧ i = .int .i64 k ∧ cmpL (xs.drop k) (ys.drop k) = R ∧ w = wr)
  case atStart => exact ⟨0, rfl, Nat.zero_le _, Nat.zero_le _, rfl, HR.out, rfl⟩
  case round =>
    clear HR
    obtain ⟨k, rfl, hk, hk2, rfl, hd, rfl⟩ := hrel
    have i4 : (0 : Int) ≤ (k : Int) := by omega
    by_cases hlt : k < xs.length
    · have i5 : (k : Int) < (xs.length : Int) := by omega
      obtain ⟨x, hx⟩ : ∃ x, xs[k]? = some x := ⟨_, List.getElem?_eq_getElem hlt⟩
      obtain ⟨g, o, rfl, _, d1⟩ := H1.out.at hx
      rw [drop_cons hx] at hd
      by_cases hlt2 : k < ys.length
      · have i6 : (k : Int) < (ys.length : Int) := by omega
        obtain ⟨y, hy⟩ : ∃ y, ys[k]? = some y := ⟨_, List.getElem?_eq_getElem hlt2⟩
        obtain ⟨g', o', rfl, _, d2⟩ := H2.out.at hy
        rw [drop_cons hy, cmpL] at hd
        by_cases hc : cmpI x y = 0
        · rw [if_pos hc] at hd
          have HD := Lib.hid hd
          have hcall := cmpI_any x y w
          rw [hc] at hcall
          clear hx hy hd hc
          go_wp2_with (go_at_call 39; refine hcall.mono ?_; rintro e1 w1 ⟨rfl, rfl⟩)
          go_roundg (xs.length - (k + 1))
          case rel => exact ⟨k + 1, rfl, by omega, by omega, by go_num, HD.out, rfl⟩
          case measure => omega
        · rw [if_neg hc] at hd
          have HD := Lib.hid hd
          have hb : (cmpI x y != 0) = true := by simpa using hc
          have hcall := cmpI_any x y w
          generalize cmpI x y = z at *
          clear hx hy hd
          go_wp2_with (go_at_call 39; refine hcall.mono ?_; rintro e1 w1 ⟨rfl, rfl⟩)
          go_ret
          exact ⟨by rw [← HD.out]; rfl, rfl⟩
      · have i6 : (ys.length : Int) ≤ (k : Int) := by omega
        have e9 : ys.drop k = [] := List.drop_eq_nil_of_le (by omega)
        rw [e9, cmpL] at hd
        subst hd
        clear hx
        go_wp2_with fail
        go_ret
        exact ⟨rfl, rfl⟩
    · have i5 : ¬ (k : Int) < (xs.length : Int) := by omega
      have e9 : xs.drop k = [] := List.drop_eq_nil_of_le (by omega)
      rw [e9] at hd
      by_cases hlt2 : k < ys.length
      · have i6 : (xs.length : Int) < (ys.length : Int) := by omega
        obtain ⟨y, hy⟩ : ∃ y, ys[k]? = some y := ⟨_, List.getElem?_eq_getElem hlt2⟩
        rw [drop_cons hy, cmpL] at hd
        subst hd
        clear hy
        go_wp2_with fail
        go_ret
        exact ⟨rfl, rfl⟩
      · have i6 : ¬ (xs.length : Int) < (ys.length : Int) := by omega
        have e9 : ys.drop k = [] := List.drop_eq_nil_of_le (by omega)
        rw [e9, cmpL] at hd
        subst hd
        go_wp2_with fail
        go_ret
        exact ⟨rfl, rfl⟩

/-- cmp.Or. -/
def orL : List Int → Int
  | [] => 0
  | a :: r => if a = 0 then orL r else a
set_option maxRecDepth 100000 in
theorem orL_any (B : Nat) (a : Option Addr) (ca : Nat) (xs : List Int) (w : World) (h1 : Rd B w a xs.length ca 1 (ints xs)) :
    Calls Tryz.prog 38 #[.slice a xs.length ca] w fun e w' => e = .returned (.int .i64 (orL xs)) ∧ w = w' := by
  have l1 := h1.lt
  obtain ⟨R, hR⟩ : ∃ R, orL xs = R := ⟨_, rfl⟩
  rw [hR]
  have HR := Lib.hid hR
  have H1 := Lib.hid h1
  clear h1 hR
  go_enter Tryz.func38, Tryz.ntmps38
  go_wp2_with fail
  go_loopg [8] xs.length (fun q i wr => ∃ (k : Nat), q = xs.length - k ∧ k ≤ xs.length ∧ i = .int .i64 k ∧ orL (xs.drop k) = R ∧ w = wr)
  case atStart => exact ⟨0, rfl, Nat.zero_le _, rfl, HR.out, rfl⟩
  case round =>
    clear HR
    obtain ⟨k, rfl, hk, rfl, hd, rfl⟩ := hrel
    have i4 : (0 : Int) ≤ (k : Int) := by omega
    by_cases hlt : k < xs.length
    · have i5 : (k : Int) < (xs.length : Int) := by omega
      obtain ⟨x, hx⟩ : ∃ x, xs[k]? = some x := ⟨_, List.getElem?_eq_getElem hlt⟩
      obtain ⟨g, o, rfl, _, d1⟩ := H1.out.at hx
      rw [drop_cons hx, orL] at hd
      by_cases hc : x = 0
      · rw [if_pos hc] at hd
        have HD := Lib.hid hd
        subst hc
        clear hx hd
        go_wp2_with fail
        go_roundg (xs.length - (k + 1))
        case rel => exact ⟨k + 1, rfl, by omega, by go_num, HD.out, rfl⟩
        case measure => omega
      · rw [if_neg hc] at hd
        have hb : (x != 0) = true := by simpa using hc
        subst hd
        clear hx
        go_wp2_with fail
        go_ret
        exact ⟨rfl, rfl⟩
    · have i5 : ¬ (k : Int) < (xs.length : Int) := by omega
      have e9 : xs.drop k = [] := List.drop_eq_nil_of_le (by omega)
      rw [e9, orL] at hd
      subst hd
      go_wp2_with fail
      go_ret
      exact ⟨rfl, rfl⟩

end Go.Proofs.YtdknbgejhhoaiaaGreat.Ind
