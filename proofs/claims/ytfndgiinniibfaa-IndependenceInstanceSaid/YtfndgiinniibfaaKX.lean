/- Contract of the reference's Instance. (Printed by wip/tools/kx.py from the program's.) -/
import Derived.Test.YtfndgiinniibfaaKW
import Derived.Deep.RegionHeld3
namespace Go.Proofs.Ytfndgiinniibfaa.Ind
open Go.Shelf Go.RowKit Go.Lib Go.Sort Go.Maps

/-- The blocks that turn. -/
def turnR (r x : Nat) (sv ov : Value) : List Nat := r :: (x + 1) :: (x + 1 + 1) :: (sv.ownBlock.toList ++ ov.ownBlock.toList)
/-- What holds at the head of the outer loop. -/
structure IStR (w wr : World) (x : Nat) (m : RM) (n : Nat) (R : Option (List (List Ar))) (f i : Nat) (s : BS) (l5 : List P5) (sv ov : Value) : Prop where
  all : s.all = l5.map toP
  ok : BsOk m n s i
  le : i ≤ s.all.length
  few : s.all.length ≤ 16384
  tot : s.tot ≤ 262144
  fuel : f + i = 16400
  go : instGo m n f s i = R
  st : wr.ownsRow w.heap.size 94 5 sv l5.length (l5.flatMap encP5)
  map : KM p5V wr (x + 1) (kvN l5)
  box : RowAt wr (x + 1 + 1) 55 [ov]
  out : LtsOwn wr w.heap.size (turnR (w.heap.size + 1) x sv ov) ov s.rows
  os : ∀ k, sv.ownBlock = some k → k = x ∨ x + 3 ≤ k
  oo : ∀ k, ov.ownBlock = some k → x + 3 ≤ k
  on : ∀ k, sv.ownBlock = some k → ov.ownBlock ≠ some k
  sz : x + 3 ≤ wr.heap.size
theorem infoCf : (Try.prog.info? 94).map (fun i => (i.zero, i.size, i.bytes)) = some (some (.agg #[.int .i64 0, .int .i64 0, .int .i64 0, .int .i64 0, .int .i64 0]), 5, 40) := by kernel_rfl
theorem i_startR {w w1 w2 : World} {m : RM} {n : Nat} {R : Option (List (List Ar))} {sa : Option Addr} {sc : Nat} (hv : validM m = true) (hR : instR m n = R) (F1 : Frm [] w w1) (b0 : RowAt w1 w.heap.size 28 (mboxC m (.slice sa m.states.length sc))) (b1 : RowAt w1 (w.heap.size + 1) 55 [.slice none 0 0])
    (hk : KM p5V w2 (w1.heap.size + 1) [((0, 0, 0, 0, 0), .int .i64 0)]) (hf : Frm [w1.heap.size + 1] ((w1.alloc (.cells #[.int .i64 0, .int .i64 0, .int .i64 0, .int .i64 0, .int .i64 0] 94)).alloc (.map #[] 0)) w2) (hs : w2.heap.size = ((w1.alloc (.cells #[.int .i64 0, .int .i64 0, .int .i64 0, .int .i64 0, .int .i64 0] 94)).alloc (.map #[] 0)).heap.size) (W : World) (hW : W = w2.alloc (.cells #[.slice none 0 0] 55)) :
    IFix w W w1.heap.size m sa sc ∧ IStR w W w1.heap.size m n R 16400 0 start0 [(0, 0, 0, 0, 0)] (.slice (some ⟨w1.heap.size, 0, none⟩) 1 1) (.slice none 0 0) := by
  have hs2 : w2.heap.size = w1.heap.size + 2 := by rw [hs]; simp
  have f2 : Frm [] w1 w2 := ((((Frm.refl [w1.heap.size + 1] w1).alloc _).alloc _).trans hf (fun x hx => .inl hx)).trans (Frm.refl [] w2) (by simp) |> fun h => ⟨h.os, h.tape, h.output, h.size, fun k hk _ => h.block k hk (by simp; omega)⟩
  have f5 : Frm [] w1 W := by rw [hW]; exact f2.alloc _
  have hx : w.heap.size + 2 ≤ w1.heap.size := by have := b1.lt; omega
  refine ⟨⟨b0.frm f5 (by simp), b1.frm f5 (by simp), F1.trans f5 (by simp), hx⟩, ?_⟩
  refine ⟨rfl, bs_start hv, Nat.zero_le _, by decide, by decide, rfl, hR, ?_, ?_, ?_, ⟨[], ⟨rfl, .inl ⟨rfl, rfl⟩⟩, by simp [Value.ownBlock], by simp, by simp [start0]⟩, by simp [Value.ownBlock], by simp [Value.ownBlock], by simp [Value.ownBlock], by rw [hW]; simp [hs2]⟩
  · rw [hW]
    refine World.ownsRow.alloc ?_ _
    have := owns_fullB w1 w.heap.size 94 5 1 [.int .i64 0, .int .i64 0, .int .i64 0, .int .i64 0, .int .i64 0] #[.int .i64 0, .int .i64 0, .int .i64 0, .int .i64 0, .int .i64 0] rfl rfl (by decide) (by omega)
    exact ownsB_frm (this.alloc _) hf (fun z hz hm => by simp [Value.ownBlock] at hz hm; omega)
  · rw [hW]
    exact hk.frm ((Frm.refl [] w2).alloc _) (by simp)
  · rw [hW]
    have := RowAt.made w2 55 [.slice none 0 0] #[.slice none 0 0] rfl
    rw [hs2] at this
    exact this
theorem lts_shutR {w wr : World} {x : Nat} {m : RM} {n : Nat} {R : Option (List (List Ar))} {f i : Nat} {s : BS} {l5 : List P5} {sv ov : Value} (h : IStR w wr x m n R f i s l5 sv ov) (hx : w.heap.size + 2 ≤ x) (u : Value) : LtsAt (wr.setCell ⟨w.heap.size + 1, 0, none⟩ u) [] ov s.rows := by
  obtain ⟨vs, h1, h2, h3, h4⟩ := h.out
  have hf : Frm [w.heap.size + 1] wr (wr.setCell ⟨w.heap.size + 1, 0, none⟩ u) := (Frm.refl _ wr).setCell (.inl (by simp)) u
  refine ⟨vs, ?_, fun i r hr => ?_⟩
  · have hv : RowV wr [w.heap.size + 1] ov s.rows.length 1 vs := rowV_of_owns h1 (fun k hk e => by
      rw [List.mem_singleton] at hk
      have := h.oo k e
      omega)
    exact hv.step hf (fun k hk => .inl hk) (by simp)
  · obtain ⟨u', hu, h5⟩ := h4 i r hr
    exact ⟨u', hu, h5.step hf (fun k hk => .inl (by rw [List.mem_singleton] at hk; rw [hk]; simp [turnR])) (by simp)⟩
theorem IStR.nil {w wr wr' : World} {x : Nat} {m : RM} {n : Nat} {R : Option (List (List Ar))} {f i : Nat} {s : BS} {l5 : List P5} {sv ov : Value} (h : IStR w wr x m n R f i s l5 sv ov) (hf : Frm [] wr wr') : IStR w wr' x m n R f i s l5 sv ov :=
  ⟨h.all, h.ok, h.le, h.few, h.tot, h.fuel, h.go, ownsB_frm h.st hf (by simp), h.map.frm hf (by simp), h.box.frm hf (by simp), h.out.nil hf, h.os, h.oo, h.on, Nat.le_trans h.sz hf.size⟩
theorem cells5R {w : World} {B n cap g : Nat} {l : List P5} (h : w.ownsRow B 94 5 (.slice (some ⟨g, 0, none⟩) n cap) n (l.flatMap encP5)) {i : Nat} {x : P5} (hx : l[i]? = some x) : ∀ (j : Nat) (u : Value), j < 5 → (encP5 x)[j]? = some u → w.cell? ⟨g, i * 5 + j, none⟩ = some u := by
  intro j u hj hu
  have hn : 0 < n := by
    have h1 := h.1
    rw [flatMap_len (enc := encP5) (k := 5) (fun _ => rfl)] at h1
    have h2 := (List.getElem?_eq_some_iff.1 hx).1
    omega
  obtain ⟨g', cap', e, _, _, _, hr⟩ := ownsB_some h hn
  cases e
  exact hr.cell (by rw [flatMap_get (enc := encP5) (k := 5) (fun _ => rfl) hx j hj]; exact hu)
set_option linter.unusedSimpArgs false in
set_option maxRecDepth 100000 in
set_option maxHeartbeats 16000000 in
theorem refInstance_any {F : List Nat} (w : World) (m : RM) (sv0 : Value) (n : Int) (h : StatesAt w F sv0 m.states) :
    Calls Try.prog 35 #[machV m sv0, .int .i64 n] w (InstEnd w m n) := by
  obtain ⟨sa, sc, rfl, l1⟩ := statesShape h
  have hval := fun W (hf : Frm [] w W) => validMachine_any W m (.slice sa m.states.length sc) (h.nil hf)
  have H := Lib.hid h
  clear h
  cases hvm : validM m with
  | false =>
    rw [hvm] at hval
    have HV := Lib.hid hval
    have HVM := Lib.hid hvm
    clear hval hvm
    have f0 : Frm [] w ((w.alloc (.cells #[.int .i64 m.regs, .int .i64 m.data, .int .i64 m.plain, .slice sa m.states.length sc] 28)).alloc (.cells #[.slice none 0 0] 55)) := ((Frm.refl [] w).alloc _).alloc _
    have hb1 := row_made1 w (.cells #[.int .i64 m.regs, .int .i64 m.data, .int .i64 m.plain, .slice sa m.states.length sc] 28) 55 [.slice none 0 0] #[.slice none 0 0] rfl
    have HB1 := Lib.hid hb1
    have HEND : Hid (∀ w', Frm [] w w' → InstEnd w m n (.returned (.tuple #[.agg #[.slice none 0 0], .int .i64 1])) w') := Lib.hid fun w' hf => ⟨by rw [if_neg (fun h9 => by have := h9.1; rw [HVM.out] at this; cases this)], hf⟩
    clear hb1
    unfold machV
    go_enter Try.func35, Try.ntmps35
    go_wp2_with fail
    refine (HV.out _ f0).mono ?_
    rintro e1 w1 ⟨rfl, hf1⟩
    have r1 := HB1.out.frm hf1 (by simp)
    have c1 := r1.cell (i := 0) rfl
    have z1 := r1.frozen 0
    have hcs := World.cell?_setCell_same' w1 ⟨w.heap.size + 1, 0, none⟩ (.slice none 0 0) (by rw [c1]; rfl)
    have HFI := Lib.hid (HEND.out _ ((f0.trans hf1 (by simp)).setCell (p := ⟨w.heap.size + 1, 0, none⟩) (.inr (by simp)) (.slice none 0 0)))
    clear f0 hf1 r1
    go_wp2_with fail
    refine bodyPost_ret (v := .tuple #[.agg #[.slice none 0 0], .int .i64 1]) (by simp [results, Try.results35, go_sem, hcs]) rfl ?_
    exact HFI.out
  | true =>
    by_cases hn : 1 ≤ n ∧ n ≤ 12
    · rw [hvm] at hval
      have HV := Lib.hid hval
      have HVM := Lib.hid hvm
      have HRM := Lib.hid (validM_ok hvm)
      obtain ⟨nn, rfl⟩ : ∃ nn : Nat, n = nn := ⟨n.toNat, by omega⟩
      have hn1 : 1 ≤ nn := by omega
      have hn2 : nn ≤ 12 := by omega
      obtain ⟨R, hR⟩ : ∃ R, instR m nn = R := ⟨_, rfl⟩
      have HR := Lib.hid hR
      have c1 : ¬ (nn : Int) < 1 := by omega
      have c2 : ¬ 12 < (nn : Int) := by omega
      have HEND : Hid (∀ e w', (match R with
          | some rows => ∃ ov, e = .returned (.tuple #[.agg #[ov], .int .i64 0]) ∧ LtsAt w' [] ov rows
          | none => e = .returned (.tuple #[.agg #[.slice none 0 0], .int .i64 10])) → Frm [] w w' → InstEnd w m nn e w') := Lib.hid fun e w' h1 h2 => by
        refine ⟨?_, h2⟩
        rw [if_pos ⟨hvm, hn⟩, Int.toNat_natCast, hR]
        exact h1
      have hmm := @run_makeMap Try.prog
      clear hval hvm hn hR
      unfold machV
      have f0 : Frm [] w ((w.alloc (.cells #[.int .i64 m.regs, .int .i64 m.data, .int .i64 m.plain, .slice sa m.states.length sc] 28)).alloc (.cells #[.slice none 0 0] 55)) := ((Frm.refl [] w).alloc _).alloc _
      have hb0 := (RowAt.made w 28 (mboxC m (.slice sa m.states.length sc)) #[.int .i64 m.regs, .int .i64 m.data, .int .i64 m.plain, .slice sa m.states.length sc] rfl).alloc (.cells #[.slice none 0 0] 55)
      have hb1 := row_made1 w (.cells #[.int .i64 m.regs, .int .i64 m.data, .int .i64 m.plain, .slice sa m.states.length sc] 28) 55 [.slice none 0 0] #[.slice none 0 0] rfl
      go_enter Try.func35, Try.ntmps35
      go_wp2_with fail
      refine (HV.out _ f0).mono ?_
      rintro e1 w1 ⟨rfl, hf1⟩
      have F1 := Lib.hid (f0.trans hf1 (by simp))
      have B0 := Lib.hid (hb0.frm hf1 (by simp))
      have B1 := Lib.hid (hb1.frm hf1 (by simp))
      clear f0 hb0 hb1 hf1
      go_wp2_with (first | (refine wpl_kins keyCfg rfl _ _ _ _ rfl Try.underlying96 (w1.heap.size + 1) [] rfl (by have := KM.fresh (ke := p5V) (w1.alloc (.cells #[.int .i64 0, .int .i64 0, .int .i64 0, .int .i64 0, .int .i64 0] 94)); simpa using this) (0, 0, 0, 0, 0) rfl _ rfl rfl ?_; intro w2 hk2 hf2 hs2) | fail)
      obtain ⟨w5, hw5⟩ : ∃ w5, w5 = w2.alloc (.cells #[.slice none 0 0] 55) := ⟨_, rfl⟩
      have hst := i_startR HVM.out HR.out F1.out B0.out B1.out hk2 hf2 hs2 w5 hw5
      rw [← hw5]
      have HFX := Lib.hid hst.1
      have HIS := Lib.hid hst.2
      clear hst hw5 hk2 hf2 hs2 F1 B0 B1 hmm HR
      generalize hx1 : w1.heap.size = x at *
      clear hx1
      go_loopg [6, 9, 10] 16400 (fun q t7 t9 t10 wr => ∃ (f i : Nat) (s : BS) (l5 : List P5) (ov : Value), q = f ∧ IFix w wr x m sa sc ∧ IStR w wr x m nn R f i s l5 t7 ov ∧ t9 = .int .i64 (s.tot : Int) ∧ t10 = .int .i64 (i : Int))
      case atStart => exact ⟨_, 0, start0, _, _, rfl, HFX.out, HIS.out, rfl, rfl⟩
      case round =>
        clear HFX HIS
        obtain ⟨f, i, s, l5, ov, hq, hfx, his, rfl, rfl⟩ := hrel
        have HQ := Lib.hid hq
        clear hq
        obtain ⟨oad, ocp, rfl⟩ : ∃ a c, ov = .slice a s.rows.length c := by
          obtain ⟨vs, h1, _⟩ := his.out
          obtain ⟨a, c, e, _⟩ := owns_shape (ownsB_mono h1 (Nat.zero_le _))
          exact ⟨a, c, e⟩
        have HFX := Lib.hid hfx
        have HIS := Lib.hid his
        have i4 : (0 : Int) ≤ (i : Int) := by omega
        clear hfx his
        have hal : s.all.length = l5.length := by rw [HIS.out.all, List.length_map]
        have hle5 : i ≤ l5.length := by rw [← hal]; exact HIS.out.le
        have hl5 : (l5.length : Int) ≤ 16384 := by have := HIS.out.few; omega
        obtain ⟨sad, scp, rfl, _⟩ := owns_shape (ownsB_mono HIS.out.st (Nat.zero_le _))
        have HAL := Lib.hid hal
        clear hal
        by_cases hlt : i < l5.length
        · have i5 : (i : Int) < (l5.length : Int) := by omega
          obtain ⟨⟨st, r0, r1, r2, r3⟩, hp5⟩ : ∃ p, l5[i]? = some p := ⟨_, List.getElem?_eq_getElem hlt⟩
          have hpa : s.all[i]? = some (st, [r0, r1, r2, r3]) := by rw [HIS.out.all, List.getElem?_map, hp5]; rfl
          have hgood := HIS.out.ok.good _ (List.mem_of_getElem? hpa)
          obtain ⟨sk, rfl⟩ : ∃ sk : Nat, st = sk := ⟨st.toNat, by have := hgood.2.1; omega⟩
          have hsk : sk < m.states.length := by have := hgood.2.2.1; omega
          obtain ⟨sg, scp', e0, _, _, _, _⟩ := ownsB_some HIS.out.st (by omega)
          obtain ⟨rfl, rfl⟩ : sad = some ⟨sg, 0, none⟩ ∧ scp = scp' := by simpa using e0
          have cp5 := cells5R HIS.out.st hp5
          unfold encP5 at cp5
          have p0 := cp5 0 _ (by omega) rfl
          have p1 := cp5 1 _ (by omega) rfl
          have p2 := cp5 2 _ (by omega) rfl
          have p3 := cp5 3 _ (by omega) rfl
          have p4 := cp5 4 _ (by omega) rfl
          rw [Nat.add_zero] at p0
          simp only at p0 p1 p2 p3 p4
          have HED0 : Hid (∀ W, Frm [] wr W → Calls Try.prog 57 #[.agg #[.int .i64 m.regs, .int .i64 m.data, .int .i64 m.plain, .slice sa m.states.length sc], .int .i64 nn, .agg #[.int .i64 sk, .int .i64 r0, .int .i64 r1, .int .i64 r2, .int .i64 r3]] W (EdgesEnd W (edgesB m nn (sk, [r0, r1, r2, r3])))) := Lib.hid fun W hf => edges_any W m sa sc nn sk r0 r1 r2 r3 ((H.out.nil HFX.out.f).nil hf) HVM.out hn1 hn2 hgood
          have KEEP : Hid (∀ w', Frm [] wr w' → w'.cell? ⟨w.heap.size, 0, none⟩ = some (.int .i64 m.regs) ∧ w'.cell? ⟨w.heap.size, 1, none⟩ = some (.int .i64 m.data) ∧ w'.cell? ⟨w.heap.size, 2, none⟩ = some (.int .i64 m.plain) ∧ w'.cell? ⟨w.heap.size, 3, none⟩ = some (.slice sa m.states.length sc) ∧ w'.cell? ⟨sg, i * 5, none⟩ = some (.int .i64 sk) ∧ w'.cell? ⟨sg, i * 5 + 1, none⟩ = some (.int .i64 r0) ∧ w'.cell? ⟨sg, i * 5 + 2, none⟩ = some (.int .i64 r1) ∧ w'.cell? ⟨sg, i * 5 + 3, none⟩ = some (.int .i64 r2) ∧ w'.cell? ⟨sg, i * 5 + 4, none⟩ = some (.int .i64 r3)) := Lib.hid fun w' hf => by
            have hm := HFX.out.m.frm hf (by simp)
            exact ⟨hm.cell (i := 0) rfl, hm.cell (i := 1) rfl, hm.cell (i := 2) rfl, hm.cell (i := 3) rfl, hf.cell p0 (by simp), hf.cell p1 (by simp), hf.cell p2 (by simp), hf.cell p3 (by simp), hf.cell p4 (by simp)⟩
          have HGOOD := Lib.hid hgood
          have HP5 := Lib.hid hp5
          have HPA := Lib.hid hpa
          clear cp5 e0 hgood hp5 hpa hlt p0 p1 p2 p3 p4
          go_wp2_with fail
          go_region_held3 (fun w' => w'.cell? ⟨w.heap.size, 0, none⟩ = some (.int .i64 m.regs) ∧ w'.cell? ⟨w.heap.size, 1, none⟩ = some (.int .i64 m.data) ∧ w'.cell? ⟨w.heap.size, 2, none⟩ = some (.int .i64 m.plain) ∧ w'.cell? ⟨w.heap.size, 3, none⟩ = some (.slice sa m.states.length sc) ∧ w'.cell? ⟨sg, i * 5, none⟩ = some (.int .i64 sk) ∧ w'.cell? ⟨sg, i * 5 + 1, none⟩ = some (.int .i64 r0) ∧ w'.cell? ⟨sg, i * 5 + 2, none⟩ = some (.int .i64 r1) ∧ w'.cell? ⟨sg, i * 5 + 3, none⟩ = some (.int .i64 r2) ∧ w'.cell? ⟨sg, i * 5 + 4, none⟩ = some (.int .i64 r3))
            (first | exact KEEP.out _ (Frm.refl [] wr).drew | exact KEEP.out _ hy5)
            (first
              | (go_at_call 57; refine (HED0.out _ (Frm.refl [] wr).drew).mono ?_; rintro e5 w9 ⟨⟨x6, lad, lcp, hx6, rfl, own9⟩, hf5⟩; have hy5 := (Frm.refl [] wr).drew.trans hf5 (by simp)))
          have HED := Lib.hid hx6
          have HO9 := Lib.hid (show w9.ownsRow wr.heap.size 100 6 (.slice lad x6.length lcp) x6.length (x6.flatMap enc6) from own9)
          have HF9 := Lib.hid hy5
          have hnx : x6.length ≤ 192 := by
            have h1 := edges_len (p := ((sk : Int), [r0, r1, r2, r3])) HVM.out hn2
            rw [← hx6, List.length_map] at h1
            exact h1
          clear hx6 own9 hy5 hf5 KEEP HED0
          obtain ⟨V, hV⟩ : ∃ V, V = wr := ⟨wr, rfl⟩
          subst hV
          have HFX0 := HFX
          have HIS0 := HIS
          have HFX3 := Lib.hid (HFX0.out.nil HF9.out (by simp))
          have HIS3 := Lib.hid (HIS0.out.nil HF9.out)
          have HSZ9 := Lib.hid HF9.out.size
          have hxV : Hid (x + 3 ≤ V.heap.size) := Lib.hid HIS0.out.sz
          have hsgV : Hid (sg < V.heap.size) := Lib.hid (HIS0.out.st.lt sg rfl).2
          have i10 : (x6.length : Int) ≤ 192 := by omega
          clear HFX HIS
          go_wp2_with fail
          go_loopg [6, 12, 13] x6.length (fun q t6 t12 t13 wr => ∃ (k : Nat) (l5' : List P5) (sad' : Option Addr) (scp' : Nat) (ra : Option Addr) (rc : Nat) (rw9 sr : List Ar), q = x6.length - k ∧ k ≤ x6.length ∧ t13 = .int .i64 k ∧ rowF s.all ((x6.take k).map toM) = (l5'.map toP, rw9) ∧ sr = setG ltAr rw9 ∧ t6 = .slice sad' l5'.length scp' ∧ t12 = .slice ra sr.length rc ∧
            wr.ownsRow w.heap.size 94 5 (.slice sad' l5'.length scp') l5'.length (l5'.flatMap encP5) ∧ wr.ownsRow w9.heap.size 59 2 (.slice ra sr.length rc) sr.length (sr.flatMap arE) ∧ (sr = [] → ra = none ∧ rc = 0) ∧ KM p5V wr (x + 1) (kvN l5') ∧ (∀ b, (Value.slice sad' l5'.length scp').ownBlock = some b → b = sg ∨ w9.heap.size ≤ b) ∧ (∀ b, (Value.slice sad' l5'.length scp').ownBlock = some b → (Value.slice ra sr.length rc).ownBlock ≠ some b) ∧ Frm [x + 1, sg] w9 wr)
          case atStart =>
            refine ⟨0, l5, _, _, none, 0, [], [], rfl, Nat.zero_le _, rfl, by rw [← HIS3.out.all]; rfl, rfl, rfl, rfl, HIS3.out.st, ⟨rfl, .inl ⟨rfl, rfl⟩⟩, fun _ => ⟨rfl, rfl⟩, HIS3.out.map, fun b hb => .inl (by simpa [Value.ownBlock] using hb.symm), fun b _ h9 => by simp [Value.ownBlock] at h9, Frm.refl _ _⟩
          case round =>
            obtain ⟨k, l5', sad', scp', ra, rc, rw9, sr, hq3, hk, rfl, hrf, hsr, rfl, rfl, hst, hrow, hnl, hkm, hos, hon, hF3⟩ := hrel
            have HST := Lib.hid hst
            have HRW := Lib.hid hrow
            have HNL := Lib.hid hnl
            have HSR := Lib.hid hsr
            have HKM := Lib.hid hkm
            have HOS := Lib.hid hos
            have HON := Lib.hid hon
            have HF3 := Lib.hid hF3
            have HQ3 := Lib.hid hq3
            have HLN := Lib.hid (rf_len HIS3.out.ok.nodup hrf)
            have HSRL : Hid (sr.length ≤ rw9.length) := Lib.hid (by rw [hsr]; exact setG_le _ _)
            have i11 : (0 : Int) ≤ (k : Int) := by omega
            have hl5' : (l5'.length : Int) ≤ 20000 := by have := HLN.out; have := HAL.out; omega
            clear hst hrow hnl hsr hkm hos hon hF3 hq3
            by_cases hkl : k < x6.length
            · have i12 : (k : Int) < (x6.length : Int) := by omega
              obtain ⟨⟨ev, s', q0, q1, q2, q3⟩, hy⟩ : ∃ y, x6[k]? = some y := ⟨_, List.getElem?_eq_getElem hkl⟩
              obtain ⟨lg, lcp', e0, hlg, _, _, _⟩ := ownsB_some HO9.out (by omega)
              obtain ⟨rfl, rfl⟩ : lad = some ⟨lg, 0, none⟩ ∧ lcp = lcp' := by simpa using e0
              have cx := cellsK (enc := enc6) (k := 6) (fun _ => rfl) HO9.out (by omega) hy
              unfold enc6 at cx
              have hlgF : Hid (lg ∉ [x + 1, sg]) := Lib.hid (by
                intro hm
                simp only [List.mem_cons, List.not_mem_nil, or_false] at hm
                have := hxV.out
                have := hsgV.out
                omega)
              have a0 := HF3.out.cell (cx 0 _ (by omega) rfl) hlgF.out
              have a1 := HF3.out.cell (cx 1 _ (by omega) rfl) hlgF.out
              have a2 := HF3.out.cell (cx 2 _ (by omega) rfl) hlgF.out
              have a3 := HF3.out.cell (cx 3 _ (by omega) rfl) hlgF.out
              have a4 := HF3.out.cell (cx 4 _ (by omega) rfl) hlgF.out
              have a5 := HF3.out.cell (cx 5 _ (by omega) rfl) hlgF.out
              rw [Nat.add_zero] at a0
              simp only at a0 a1 a2 a3 a4 a5
              have hlt9 : Hid (lg < w9.heap.size) := Lib.hid (HO9.out.lt lg rfl).2
              have hlg0 : Hid (V.heap.size ≤ lg) := Lib.hid hlg
              have hstep := rf_step hrf hy
              have HSZ := Lib.hid HF3.out.size
              have hxw : Hid (x + 1 < w9.heap.size) := Lib.hid (by have := hxV.out; have := HSZ9.out; omega)
              have HIA : Hid (∀ (W : World) (j : Int), W.ownsRow w9.heap.size 59 2 (.slice ra sr.length rc) sr.length (sr.flatMap arE) → w9.heap.size ≤ W.heap.size → Calls Try.prog 58 #[.slice ra sr.length rc, .agg #[.int .i64 ev, .int .i64 j]] W fun e w' => (∃ a' cp', e = .returned (.slice a' (insG ltAr sr (ev, j)).length cp') ∧ w'.ownsRow w9.heap.size 59 2 (.slice a' (insG ltAr sr (ev, j)).length cp') (insG ltAr sr (ev, j)).length ((insG ltAr sr (ev, j)).flatMap arE) ∧ ∀ b, (Value.slice a' (insG ltAr sr (ev, j)).length cp').ownBlock = some b → (Value.slice ra sr.length rc).ownBlock = some b ∨ W.heap.size ≤ b) ∧ Frm [] W w') := Lib.hid fun W j h hB => insA_any w9.heap.size ra rc sr (ev, j) W h HNL.out (by have := HLN.out; have := HSRL.out; omega) hB
              clear cx e0 hrf
              by_cases hmem : (s', q0, q1, q2, q3) ∈ l5'
              · have hrf2 := Lib.hid (hstep.1 hmem)
                have hga : getA (kvN l5') (s', q0, q1, q2, q3) = some (.int .i64 ((l5'.idxOf (s', q0, q1, q2, q3) : Nat) : Int)) := getA_kvN_some hmem 0
                generalize l5'.idxOf (s', q0, q1, q2, q3) = num at *
                have HG := Lib.hid hga
                clear hstep hga hmem hy
                go_wp2_with (first | (at_lookup; refine wpl_klook keyCfg rfl _ _ _ rfl Try.underlying96 (zero_int _) (x + 1) (kvN l5') rfl HKM.out (s', q0, q1, q2, q3) rfl ?_; rw [HG.out]) | (go_at_call 58; refine (HIA.out _ _ HRW.out HSZ.out).mono ?_; rintro e8 w8 ⟨⟨a8, c8, rfl, own8, hb8⟩, hf8⟩) | fail)
                have F8 : Hid (Frm [x + 1, sg] w9 w8) := Lib.hid (HF3.out.trans hf8 (by simp))
                have HOW := Lib.hid own8
                have HS8 := Lib.hid (ownsB_frm HST.out hf8 (by simp))
                have HK8 := Lib.hid (HKM.out.frm hf8 (by simp))
                have HB8 : Hid (∀ b, (Value.slice sad' l5'.length scp').ownBlock = some b → (Value.slice a8 (insG ltAr sr (ev, (num : Int))).length c8).ownBlock ≠ some b) := Lib.hid fun b hb h9 => by
                  rcases hb8 b h9 with h9 | h9
                  · exact HON.out b hb h9
                  · have := (HST.out.lt b hb).2
                    omega
                clear own8 hf8 hb8
                go_wp2_with fail
                go_roundg (x6.length - (k + 1))
                case rel => exact ⟨k + 1, l5', sad', scp', a8, c8, rw9 ++ [(ev, (num : Int))], insG ltAr sr (ev, (num : Int)), rfl, by omega, by go_num, hrf2.out, by rw [HSR.out, setG_snoc], rfl, rfl, HS8.out, HOW.out, fun h => absurd h (insG_ne _ _), HK8.out, HOS.out, HB8.out, F8.out⟩
                case measure => have := HQ3.out; omega
              · have hrf2 := Lib.hid (hstep.2 hmem)
                have hga := getA_kvN_none hmem
                have HG := Lib.hid hga
                have HXS : Hid (sg ≠ x + 1) := Lib.hid (by
                  have := HIS3.out.os sg rfl
                  omega)
                have HSN : Hid (∀ z ∈ (Value.slice sad' l5'.length scp').ownBlock.toList, z ≠ x + 1 ∧ (z = sg ∨ w9.heap.size ≤ z) ∧ z < wr.heap.size) := Lib.hid fun z hz => by
                  have h1 := HOS.out z (by simpa using hz)
                  have h2 := HST.out.lt z (by simpa using hz)
                  have := HXS.out
                  have := hxw.out
                  exact ⟨by omega, h1, h2.2⟩
                have HRN : Hid (∀ z ∈ (Value.slice ra sr.length rc).ownBlock.toList, w9.heap.size ≤ z ∧ z < wr.heap.size) := Lib.hid fun z hz => HRW.out.lt z (by simpa using hz)
                have HAC : Hid (∀ (fp : List Nat) (W : World), Frm fp wr W → lg ∉ fp → W.cell? ⟨lg, k * 6, none⟩ = some (.int .i64 ev) ∧ W.cell? ⟨lg, k * 6 + 1, none⟩ = some (.int .i64 s') ∧ W.cell? ⟨lg, k * 6 + 2, none⟩ = some (.int .i64 q0) ∧ W.cell? ⟨lg, k * 6 + 3, none⟩ = some (.int .i64 q1) ∧ W.cell? ⟨lg, k * 6 + 4, none⟩ = some (.int .i64 q2) ∧ W.cell? ⟨lg, k * 6 + 5, none⟩ = some (.int .i64 q3)) := Lib.hid fun fp W hf hn => ⟨hf.cell a0 hn, hf.cell a1 hn, hf.cell a2 hn, hf.cell a3 hn, hf.cell a4 hn, hf.cell a5 hn⟩
                clear hstep hga hmem hy
                go_wp2_with (first
                  | (at_lookup; refine wpl_klook keyCfg rfl _ _ _ rfl Try.underlying96 (zero_int _) (x + 1) (kvN l5') rfl HKM.out (s', q0, q1, q2, q3) rfl ?_; rw [HG.out])
                  | (at_mapUpdate; refine wpl_kput keyCfg rfl _ _ _ _ rfl Try.underlying96 (x + 1) (kvN l5') rfl HKM.out (s', q0, q1, q2, q3) rfl (.int .i64 (l5'.length : Int)) rfl HG.out ?_; intro w4 hk4 hf4 hs4; have HK4 := Lib.hid hk4; have HF4 := Lib.hid hf4; have HS4 := Lib.hid hs4; obtain ⟨e0, e1, e2, e3, e4, e5⟩ := HAC.out _ _ hf4 (fun hm => by have := hlgF.out; simp at hm this; omega); clear hk4 hf4 hs4)
                  | (at_builtin; refine app_row rfl (.tmp 73) (.tmp 79) 95 94 _ 5 40 rfl Try.underlying95 infoCf rfl (by decide) (by decide) w.heap.size l5'.length (.slice sad' l5'.length scp') _ rfl ((ownsB_frm HST.out HF4.out (fun z hz hm => (HSN.out z (by simpa using hz)).1 (by simpa using hm))).alloc _) _ 1 [.int .i64 s', .int .i64 q0, .int .i64 q1, .int .i64 q2, .int .i64 q3] [] rfl (rowV_cells (size := 5) (RowAt.made w4 94 [.int .i64 s', .int .i64 q0, .int .i64 q1, .int .i64 q2, .int .i64 q3] #[.int .i64 s', .int .i64 q0, .int .i64 q1, .int .i64 q2, .int .i64 q3] rfl) rfl (Nat.le_refl _) (by decide) (by simp)) (encP5_one [(s', q0, q1, q2, q3)]) (l5'.length + 1) rfl (by omega) (by have h1 := HFX3.out.f.size; have h2 := HSZ.out; have h3 := HS4.out; simp; omega) ?_; intro a6 c6 w6 own6 hf6 hb6; have HO6 := Lib.hid own6; have HF6 := Lib.hid hf6; have HB6 := Lib.hid hb6; have FS6 := Lib.hid ((HF4.out.mono (fq := (x + 1) :: (Value.slice sad' l5'.length scp').ownBlock.toList) (by simp)).alloc (.cells #[.int .i64 s', .int .i64 q0, .int .i64 q1, .int .i64 q2, .int .i64 q3] 94) |>.trans hf6 (fun z hz => .inl (List.mem_cons_of_mem _ hz))); obtain ⟨g0, g1, g2, g3, g4, g5⟩ := HAC.out _ _ FS6.out (fun hm => by have h1 := hlgF.out; have h2 := hlt9.out; simp only [List.mem_cons, List.not_mem_nil, or_false, not_or] at h1; rcases List.mem_cons.1 hm with h9 | h9; (exact h1.1 h9); (have := (HSN.out _ h9).2.1; omega)); have HR6 := Lib.hid (ownsB_frm ((ownsB_frm HRW.out HF4.out (fun z hz hm => by have := (HRN.out z (by simpa using hz)).1; have := hxw.out; simp at hm; omega)).alloc (.cells #[.int .i64 s', .int .i64 q0, .int .i64 q1, .int .i64 q2, .int .i64 q3] 94)) hf6 (fun z hz hm => HON.out z (by simpa using hm) hz)); have SZ6 : Hid (wr.heap.size + 1 ≤ w6.heap.size) := Lib.hid (by have h1 := hf6.size; have h2 := HS4.out; simp at h1; omega); clear own6 hf6 hb6)
                  | (go_at_call 58; refine (HIA.out _ _ HR6.out (by have := SZ6.out; have := HSZ.out; omega)).mono ?_; rintro e8 w8 ⟨⟨a8, c8, rfl, own8, hb8⟩, hf8⟩)
                  | fail)
                have F4 : Frm [x + 1, sg] w9 w4 := HF3.out.trans HF4.out (fun z hz => .inl (by rw [List.mem_singleton.1 hz]; simp))
                have F6 : Frm [x + 1, sg] w9 w6 := (F4.alloc _).trans HF6.out (fun z hz => by
                  rcases (HSN.out z hz).2.1 with h9 | h9
                  · exact .inl (by rw [h9]; simp)
                  · exact .inr h9)
                have F8 : Hid (Frm [x + 1, sg] w9 w8) := Lib.hid (F6.trans hf8 (by simp))
                have HOW := Lib.hid own8
                have HN6 : Hid (∀ b, (Value.slice a6 (l5'.length + 1) c6).ownBlock = some b → (b = sg ∨ w9.heap.size ≤ b) ∧ (Value.slice ra sr.length rc).ownBlock ≠ some b ∧ b < w6.heap.size ∧ b ≠ x + 1) := Lib.hid fun b hb => by
                  have hlt := (HO6.out.lt b hb).2
                  rcases HB6.out b hb with h9 | h9
                  · have h1 := HSN.out b (by simpa using h9)
                    exact ⟨h1.2.1, HON.out b h9, hlt, h1.1⟩
                  · have h2 := HS4.out
                    have h3 := HSZ.out
                    have h4 := hxw.out
                    simp at h9
                    refine ⟨.inr (by omega), fun h5 => ?_, hlt, by omega⟩
                    have := (HRN.out b (by simpa using h5)).2
                    omega
                have HS8 := Lib.hid (ownsB_frm HO6.out hf8 (by simp))
                have K6 := (HK4.out.frm (fp := (Value.slice sad' l5'.length scp').ownBlock.toList) (((Frm.refl _ w4).alloc _).trans HF6.out (fun z hz => .inl hz)) (fun hm => (HSN.out (x + 1) hm).1 rfl))
                have HK8 := Lib.hid (K6.frm hf8 (by simp))
                have HB8 : Hid (∀ b, (Value.slice a6 (l5'.length + 1) c6).ownBlock = some b → (Value.slice a8 (insG ltAr sr (ev, (l5'.length : Int))).length c8).ownBlock ≠ some b) := Lib.hid fun b hb h9 => by
                  rcases hb8 b h9 with h9 | h9
                  · exact (HN6.out b hb).2.1 h9
                  · have := (HN6.out b hb).2.2.1
                    omega
                clear own8 hf8 hb8 F4 F6 K6 e0 e1 e2 e3 e4 e5 g0 g1 g2 g3 g4 g5
                go_wp2_with fail
                go_roundg (x6.length - (k + 1))
                case rel =>
                  refine ⟨k + 1, l5' ++ [(s', q0, q1, q2, q3)], a6, c6, a8, c8, rw9 ++ [(ev, (l5'.length : Int))], insG ltAr sr (ev, (l5'.length : Int)), rfl, by omega, by go_num, hrf2.out, by rw [HSR.out, setG_snoc], by simp, rfl, ?_, HOW.out, fun h => absurd h (insG_ne _ _), ?_, ?_, ?_, F8.out⟩
                  · have := HS8.out
                    simpa [List.flatMap_append, encP5] using this
                  · rw [kvN_snoc]
                    exact HK8.out
                  · intro b hb
                    exact (HN6.out b (by simpa using hb)).1
                  · intro b hb
                    exact HB8.out b (by simpa using hb)
                case measure => have := HQ3.out; omega
            · have i12 : ¬ (k : Int) < (x6.length : Int) := by omega
              have hkx : k = x6.length := by omega
              rw [hkx, List.take_length] at hrf
              have hbe := bstep_eq HPA.out HED.out hrf
              have HPRE : Hid (s.all.length ≤ l5'.length) := Lib.hid (by
                obtain ⟨r9, hpre⟩ := (rf HIS3.out.ok.nodup (x6.map toM)).pre
                rw [hrf] at hpre
                have := congrArg List.length hpre
                simp only [List.length_map, List.length_append] at this
                omega)
              rw [← HSR.out] at hbe
              obtain ⟨f', hf'⟩ : ∃ f', f = f' + 1 := ⟨f - 1, by have := HIS3.out.fuel; have := HIS3.out.few; have := HAL.out; omega⟩
              have hgo := HIS3.out.go
              rw [hf', instGo, if_pos (by have := HAL.out; omega)] at hgo
              have HBS := Lib.hid (HIS3.out.ok.step HVM.out hn2 (show i < s.all.length by have := HAL.out; omega)).1
              have HBE := Lib.hid hbe
              have HGO := Lib.hid hgo
              have HFF := Lib.hid hf'
              have HRN : Hid (∀ z ∈ (Value.slice ra sr.length rc).ownBlock.toList, w9.heap.size ≤ z ∧ z < wr.heap.size) := Lib.hid fun z hz => HRW.out.lt z (by simpa using hz)
              have htb : s.tot ≤ 262144 := HIS3.out.tot
              have i13 : (sr.length : Int) ≤ 192 := by have := HLN.out; have := HSRL.out; omega
              have i14 : IntKind.i64.wrap ((s.tot : Int) + (sr.length : Int)) = ((s.tot + sr.length : Nat) : Int) := by rw [IntWalk.i64_in _ (by omega)]; omega
              clear hbe hgo hf' hrf hkx hk HQ3
              have own10 := HRW.out
              have hf10 : Frm (Value.slice ra sr.length rc).ownBlock.toList wr wr := Frm.refl _ _
              have F3 := Lib.hid (HF3.out.trans hf10 (fun z hz => .inr (HRN.out z hz).1))
              have FX10 := Lib.hid (HFX3.out.nil (fp := [x + 1, sg]) F3.out (fun z hz => by
                simp only [List.mem_cons, List.not_mem_nil, or_false] at hz
                have := HIS3.out.os sg rfl
                omega))
              have ST10 := Lib.hid (ownsB_frm HST.out hf10 (fun z hz hm => HON.out z hz (by simpa using hm)))
              have KM10 := Lib.hid (HKM.out.frm hf10 (fun hm => by have := (HRN.out (x + 1) hm).1; have := hxV.out; have := HSZ9.out; omega))
              have OW10 := Lib.hid own10
              have SZ10 := Lib.hid hf10.size
              have WSZ := Lib.hid HF3.out.size
              have c1 := FX10.out.r.cell (i := 0) rfl
              have z1 := FX10.out.r.frozen 0
              have hgo := HGO.out
              rw [HBE.out] at hgo
              clear own10 hf10
              by_cases hfull : 16384 < l5'.length ∨ 262144 < s.tot + sr.length
              · have hfb : fullB ⟨l5'.map toP, s.rows ++ [sr], s.tot + sr.length⟩ = true := by
                  simp only [fullB, List.length_map, Bool.or_eq_true, decide_eq_true_eq]
                  exact hfull
                rw [if_pos hfb] at hgo
                have hfr : Frm [] w (wr.setCell ⟨w.heap.size + 1, 0, none⟩ (.slice none 0 0)) := FX10.out.f.setCell (.inr (by simp)) _
                have HFI := Lib.hid (HEND.out (.returned (.tuple #[.agg #[.slice none 0 0], .int .i64 10])) _ (by rw [← hgo]) hfr)
                have hcs := World.cell?_setCell_same' wr ⟨w.heap.size + 1, 0, none⟩ (.slice none 0 0) (by rw [c1]; rfl)
                clear hfr hfb hgo
                by_cases hf1 : 16384 < l5'.length
                · have j1 : (16384 : Int) < (l5'.length : Int) := by omega
                  clear hfull
                  go_wp2_with fail
                  refine bodyPost_ret (v := .tuple #[.agg #[.slice none 0 0], .int .i64 10]) (by simp [results, Try.results35, go_sem, hcs]) rfl ?_
                  exact HFI.out
                · have j1 : ¬ (16384 : Int) < (l5'.length : Int) := by omega
                  have j2 : (262144 : Int) < ((s.tot + sr.length : Nat) : Int) := by omega
                  clear hfull
                  go_wp2_with fail
                  refine bodyPost_ret (v := .tuple #[.agg #[.slice none 0 0], .int .i64 10]) (by simp [results, Try.results35, go_sem, hcs]) rfl ?_
                  exact HFI.out
              · have hfb : ¬ fullB ⟨l5'.map toP, s.rows ++ [sr], s.tot + sr.length⟩ = true := by
                  simp only [fullB, List.length_map, Bool.or_eq_true, decide_eq_true_eq]
                  exact hfull
                rw [if_neg hfb] at hgo
                have j1 : ¬ (16384 : Int) < (l5'.length : Int) := by omega
                have j2 : ¬ (262144 : Int) < ((s.tot + sr.length : Nat) : Int) := by omega
                have HGO2 := Lib.hid hgo
                have HNF := Lib.hid hfull
                clear hgo hfull hfb c1 z1
                obtain ⟨vs, hov, hovF, hvs1, hvin⟩ := HIS0.out.out
                have hvsl : vs.length = s.rows.length := by have := hov.1; omega
                have HVF : Hid (Frm [x + 1, sg] V wr) := Lib.hid ((HF9.out.mono (fq := [x + 1, sg]) (by simp)).trans F3.out (fun z hz => .inl hz))
                have HON0 : Hid (∀ z ∈ (Value.slice oad s.rows.length ocp).ownBlock.toList, x + 3 ≤ z ∧ z < V.heap.size ∧ z ≠ sg) := Lib.hid fun z hz => by
                  have hz' : (Value.slice oad s.rows.length ocp).ownBlock = some z := by simpa using hz
                  exact ⟨HIS0.out.oo z hz', (hov.lt z hz').2, fun e => HIS0.out.on sg rfl (by rw [← e]; exact hz')⟩
                have OV10 := Lib.hid (ownsB_frm hov HVF.out (fun z hz hm => by
                  have := HON0.out z (by simpa using hz)
                  simp only [List.mem_cons, List.not_mem_nil, or_false] at hm
                  omega))
                have bx10 := HIS0.out.box.frm HVF.out (fun hm => by
                  simp only [List.mem_cons, List.not_mem_nil, or_false] at hm
                  have := HIS0.out.os sg rfl
                  omega)
                have BX10 := Lib.hid bx10
                have b0 := bx10.cell (i := 0) rfl
                have zb := bx10.frozen 0
                have hbl : x + 1 + 1 < wr.heap.size := bx10.lt
                have HVIN := Lib.hid hvin
                have HVS1 := Lib.hid hvs1
                have HVSL := Lib.hid hvsl
                have hfew : s.rows.length ≤ 16384 := by have := HIS0.out.ok.rows; have := HIS0.out.few; have := HIS0.out.le; omega
                have HFEW := Lib.hid hfew
                clear hov hovF hvs1 hvin hvsl bx10 hfew
                go_wp2_with (first
                  | (at_builtin; refine app_row rfl (.tmp 103) (.tmp 105) 53 60 _ 1 24 rfl Try.underlying53 infoRw rfl (by decide) (by decide) w.heap.size s.rows.length (.slice oad s.rows.length ocp) _ rfl (OV10.out.alloc _) _ 1 [.slice ra sr.length rc] [] rfl (rowV_cells (size := 1) (RowAt.made wr 60 [.slice ra sr.length rc] #[.slice ra sr.length rc] rfl) rfl (Nat.le_refl _) (by decide) (by simp)) (by simp [Value.oneCell']) (s.rows.length + 1) rfl (by have := HFEW.out; omega) (by have := FX10.out.f.size; simp; omega) ?_; intro a11 c11 w11 own11 hf11 hb11; have O11 := Lib.hid own11; have F11 := Lib.hid hf11; have B11 := Lib.hid hb11; have bx11 := ((BX10.out.alloc (.cells #[.slice ra sr.length rc] 60)).frm hf11 (fun hm => by have := (HON0.out _ hm).1; omega)); have BX11 := Lib.hid bx11; have b1 := bx11.cell (i := 0) rfl; have zb1 := bx11.frozen 0; clear own11 hf11 hb11 bx11)
                  | fail)
                have OVO : Hid (∀ z, (Value.slice a11 (s.rows.length + 1) c11).ownBlock = some z → z ∈ (Value.slice oad s.rows.length ocp).ownBlock.toList ∨ z = wr.heap.size + 1) := Lib.hid fun z hz => by
                  rcases B11.out z hz with h9 | h9
                  · exact .inl (by simpa using h9)
                  · exact .inr (by simpa using h9)
                have FA : Hid (Frm ((x + 1 + 1) :: (Value.slice oad s.rows.length ocp).ownBlock.toList) wr (w11.setCell ⟨x + 1 + 1, 0, none⟩ (.slice a11 (s.rows.length + 1) c11))) := Lib.hid ((((Frm.refl _ wr).alloc _).trans F11.out (fun z hz => .inl (List.mem_cons_of_mem _ hz))).setCell (p := ⟨x + 1 + 1, 0, none⟩) (.inl List.mem_cons_self) _)
                have FB : Hid (Frm ((x + 1) :: sg :: (x + 1 + 1) :: (Value.slice oad s.rows.length ocp).ownBlock.toList) V (w11.setCell ⟨x + 1 + 1, 0, none⟩ (.slice a11 (s.rows.length + 1) c11))) := Lib.hid ((HVF.out.mono (by simp)).trans FA.out (fun z hz => .inl (List.mem_cons_of_mem _ (List.mem_cons_of_mem _ hz))))
                have HSVL : Hid (∀ z, (Value.slice sad' l5'.length scp').ownBlock = some z → (z = sg ∨ w9.heap.size ≤ z) ∧ z < wr.heap.size) := Lib.hid fun z hz => ⟨HOS.out z hz, (ST10.out.lt z hz).2⟩
                have hsg3 := HIS0.out.os sg rfl
                have hn9 : ∀ z, (Value.slice sad' l5'.length scp').ownBlock = some z → z ∉ (x + 1 + 1) :: (Value.slice oad s.rows.length ocp).ownBlock.toList := fun z hz hm => by
                  have h1 := HSVL.out z hz
                  have h2 := HSZ9.out
                  have h3 := hxV.out
                  rcases List.mem_cons.1 hm with h9 | h9
                  · omega
                  · have := HON0.out z h9
                    omega
                have hxn : x + 1 ∉ (x + 1 + 1) :: (Value.slice oad s.rows.length ocp).ownBlock.toList := fun hm => by
                  rcases List.mem_cons.1 hm with h9 | h9
                  · omega
                  · have := HON0.out (x + 1) h9
                    omega
                have NST := Lib.hid (ownsB_frm ST10.out FA.out hn9)
                have NKM := Lib.hid (KM10.out.frm FA.out hxn)
                have NFX := Lib.hid (FX10.out.nil FA.out (fun z hz => by
                  rcases List.mem_cons.1 hz with h9 | h9
                  · omega
                  · have := HON0.out z h9
                    omega))
                have NBX := Lib.hid (BX11.out.setCell 0 (.slice a11 (s.rows.length + 1) c11))
                have NOV := Lib.hid (ownsB_frm O11.out ((Frm.refl [x + 1 + 1] w11).setCell (p := ⟨x + 1 + 1, 0, none⟩) (.inl (by simp)) (.slice a11 (s.rows.length + 1) c11)) (fun z hz hm => by
                  rw [List.mem_singleton] at hm
                  rcases OVO.out z hz with h9 | h9
                  · have := HON0.out z h9
                    omega
                  · omega))
                have NROW : Hid (RowV (w11.setCell ⟨x + 1 + 1, 0, none⟩ (.slice a11 (s.rows.length + 1) c11)) (turnR (w.heap.size + 1) x (.slice sad' l5'.length scp') (.slice a11 (s.rows.length + 1) c11)) (.slice ra sr.length rc) sr.length 2 ((sr).flatMap arE)) := Lib.hid (by
                  have hv : RowV wr ((x + 1 + 1) :: ((Value.slice oad s.rows.length ocp).ownBlock.toList ++ turnR (w.heap.size + 1) x (.slice sad' l5'.length scp') (.slice oad s.rows.length ocp))) (.slice ra sr.length rc) sr.length 2 ((sr).flatMap arE) := rowV_of_owns OW10.out (fun z hz e => by
                    have h1 := HRN.out z (by simpa using e)
                    have h2 := HSZ9.out
                    have h3 := hxV.out
                    have h4 := FX10.out.x
                    simp only [turnR, List.mem_cons, List.mem_append, Option.mem_toList] at hz
                    rcases hz with h9 | h9 | h9 | h9 | h9 | h9 | h9
                    · omega
                    · have := (HON0.out z (by simpa using h9)).2.1
                      omega
                    · omega
                    · omega
                    · omega
                    · exact HON.out z h9 e
                    · have := (HON0.out z (by simpa using h9)).2.1
                      omega)
                  refine hv.step FA.out (fun z hz => .inl (by
                    rcases List.mem_cons.1 hz with h9 | h9
                    · rw [h9]; exact List.mem_cons_self
                    · exact List.mem_cons_of_mem _ (List.mem_append_left _ h9))) (fun z hz => ?_)
                  simp only [turnR, List.mem_cons, List.mem_append, Option.mem_toList] at hz
                  rcases hz with h9 | h9 | h9 | h9 | h9
                  · exact .inl (by simp [turnR, h9])
                  · exact .inl (by simp [turnR, h9])
                  · exact .inl (by simp [h9])
                  · exact .inl (List.mem_cons_of_mem _ (List.mem_append_right _ (by simp [turnR, h9])))
                  · rcases OVO.out z h9 with h8 | h8
                    · exact .inl (List.mem_cons_of_mem _ (List.mem_append_left _ h8))
                    · exact .inr (by omega))
                have NLT : Hid (LtsOwn (w11.setCell ⟨x + 1 + 1, 0, none⟩ (.slice a11 (s.rows.length + 1) c11)) w.heap.size (turnR (w.heap.size + 1) x (.slice sad' l5'.length scp') (.slice a11 (s.rows.length + 1) c11)) (.slice a11 (s.rows.length + 1) c11) (s.rows ++ [sr])) := Lib.hid (lts_next FB.out (fun z hz => by
                    simp only [List.mem_cons] at hz
                    rcases hz with h9 | h9 | h9 | h9
                    · exact .inl (by simp [turnR, h9])
                    · exact .inl (by simp [turnR, h9, Value.ownBlock])
                    · exact .inl (by simp [turnR, h9])
                    · exact .inl (by simp only [turnR, List.mem_cons, List.mem_append]; exact .inr (.inr (.inr (.inr h9))))) (fun z hz => by
                    simp only [turnR, List.mem_cons, List.mem_append, Option.mem_toList] at hz
                    rcases hz with h9 | h9 | h9 | h9 | h9
                    · exact .inl (by simp [turnR, h9])
                    · exact .inl (by simp [turnR, h9])
                    · exact .inl (by simp [turnR, h9])
                    · rcases (HSVL.out z h9).1 with h8 | h8
                      · exact .inl (by simp [turnR, h8, Value.ownBlock])
                      · exact .inr (by have := HSZ9.out; omega)
                    · rcases OVO.out z h9 with h8 | h8
                      · exact .inl (by simp only [turnR, List.mem_cons, List.mem_append]; exact .inr (.inr (.inr (.inr h8))))
                      · exact .inr (by have := HSZ9.out; have := WSZ.out; have := SZ10.out; omega)) ⟨vs, HVIN.out, HVS1.out, HVSL.out, NOV.out⟩ (fun z hz => by
                    simp only [turnR, List.mem_cons, List.mem_append, Option.mem_toList]
                    exact .inr (.inr (.inr (.inr hz)))) rfl NROW.out)
                clear hn9 hxn b0 zb b1 zb1 j1 j2
                go_roundg f'
                case rel =>
                  have hbs := HBS.out
                  have hgo2 := HGO2.out
                  have hnf := HNF.out
                  have hbe := HBE.out
                  refine ⟨f', i + 1, bstep m nn s i, l5', .slice a11 (s.rows.length + 1) c11, rfl, NFX.out, ?_, ?_, by go_num⟩
                  · rw [hbe] at hbs ⊢
                    refine ⟨rfl, hbs, ?_, ?_, ?_, ?_, hgo2, NST.out, NKM.out, NBX.out, NLT.out, ?_, ?_, ?_, ?_⟩
                    · have h1 := HPRE.out
                      have h2 := HAL.out
                      show i + 1 ≤ (l5'.map toP).length
                      rw [List.length_map]; omega
                    · show (l5'.map toP).length ≤ 16384
                      rw [List.length_map]; omega
                    · show s.tot + sr.length ≤ 262144
                      omega
                    · have h1 := HIS0.out.fuel
                      have h2 := HFF.out
                      omega
                    · intro z hz
                      rcases (HSVL.out z hz).1 with h9 | h9
                      · rw [h9]; exact hsg3
                      · have := HSZ9.out
                        have := hxV.out
                        exact .inr (by omega)
                    · intro z hz
                      rcases OVO.out z hz with h9 | h9
                      · exact (HON0.out z h9).1
                      · omega
                    · intro z hz h9
                      have h1 := HSVL.out z hz
                      rcases OVO.out z h9 with h8 | h8
                      · have := HON0.out z h8
                        have := HSZ9.out
                        omega
                      · omega
                    · have := FB.out.size
                      have := HIS0.out.sz
                      omega
                  · rw [hbe]
                    first | rfl | go_num
                case measure => have h1 := HFF.out; have h2 := HQ.out; omega
        · have i5 : ¬ (i : Int) < (l5.length : Int) := by omega
          have hRR : R = some s.rows := by
            have h1 := HIS.out.go
            have h2 := HIS.out.fuel
            obtain ⟨f', hf'⟩ : ∃ f', f = f' + 1 := ⟨f - 1, by omega⟩
            rw [hf', instGo, if_neg (by have := HAL.out; omega)] at h1
            exact h1.symm
          have c0 := HIS.out.box.cell (i := 0) rfl
          have c1 := HFX.out.r.cell (i := 0) rfl
          have z1 := HFX.out.r.frozen 0
          have hsh := lts_shutR HIS.out HFX.out.x (.slice oad s.rows.length ocp)
          have hfr : Frm [] w (wr.setCell ⟨w.heap.size + 1, 0, none⟩ (.slice oad s.rows.length ocp)) := HFX.out.f.setCell (.inr (by simp)) _
          have HFI := Lib.hid (HEND.out (.returned (.tuple #[.agg #[.slice oad s.rows.length ocp], .int .i64 0])) _ (by rw [hRR]; exact ⟨_, rfl, hsh⟩) hfr)
          have hcs := World.cell?_setCell_same' wr ⟨w.heap.size + 1, 0, none⟩ (.slice oad s.rows.length ocp) (by rw [c1]; rfl)
          have hne : w.heap.size + 1 ≠ x + 1 + 1 := by have := HFX.out.x; omega
          clear hRR hsh hfr
          go_wp2_with fail
          refine bodyPost_ret (v := .tuple #[.agg #[.slice oad s.rows.length ocp], .int .i64 0]) (by simp [results, Try.results35, go_sem, hcs]) rfl ?_
          exact HFI.out
    · rw [hvm] at hval
      have HV := Lib.hid hval
      have hor : n < 1 ∨ (¬ n < 1 ∧ 12 < n) := by omega
      clear hval
      rcases hor with c1 | ⟨c1, c2⟩
      · have f0 : Frm [] w ((w.alloc (.cells #[.int .i64 m.regs, .int .i64 m.data, .int .i64 m.plain, .slice sa m.states.length sc] 28)).alloc (.cells #[.slice none 0 0] 55)) := ((Frm.refl [] w).alloc _).alloc _
        have hb1 := row_made1 w (.cells #[.int .i64 m.regs, .int .i64 m.data, .int .i64 m.plain, .slice sa m.states.length sc] 28) 55 [.slice none 0 0] #[.slice none 0 0] rfl
        have HB1 := Lib.hid hb1
        have HEND : Hid (∀ w', Frm [] w w' → InstEnd w m n (.returned (.tuple #[.agg #[.slice none 0 0], .int .i64 1])) w') := Lib.hid fun w' hf => ⟨by rw [if_neg (fun h9 => hn h9.2)], hf⟩
        clear hb1
        unfold machV
        go_enter Try.func35, Try.ntmps35
        go_wp2_with fail
        refine (HV.out _ f0).mono ?_
        rintro e1 w1 ⟨rfl, hf1⟩
        have r1 := HB1.out.frm hf1 (by simp)
        have cc1 := r1.cell (i := 0) rfl
        have z1 := r1.frozen 0
        have hcs := World.cell?_setCell_same' w1 ⟨w.heap.size + 1, 0, none⟩ (.slice none 0 0) (by rw [cc1]; rfl)
        have HFI := Lib.hid (HEND.out _ ((f0.trans hf1 (by simp)).setCell (p := ⟨w.heap.size + 1, 0, none⟩) (.inr (by simp)) (.slice none 0 0)))
        clear f0 hf1 r1
        go_wp2_with fail
        refine bodyPost_ret (v := .tuple #[.agg #[.slice none 0 0], .int .i64 1]) (by simp [results, Try.results35, go_sem, hcs]) rfl ?_
        exact HFI.out
      · have f0 : Frm [] w ((w.alloc (.cells #[.int .i64 m.regs, .int .i64 m.data, .int .i64 m.plain, .slice sa m.states.length sc] 28)).alloc (.cells #[.slice none 0 0] 55)) := ((Frm.refl [] w).alloc _).alloc _
        have hb1 := row_made1 w (.cells #[.int .i64 m.regs, .int .i64 m.data, .int .i64 m.plain, .slice sa m.states.length sc] 28) 55 [.slice none 0 0] #[.slice none 0 0] rfl
        have HB1 := Lib.hid hb1
        have HEND : Hid (∀ w', Frm [] w w' → InstEnd w m n (.returned (.tuple #[.agg #[.slice none 0 0], .int .i64 1])) w') := Lib.hid fun w' hf => ⟨by rw [if_neg (fun h9 => hn h9.2)], hf⟩
        clear hb1
        unfold machV
        go_enter Try.func35, Try.ntmps35
        go_wp2_with fail
        refine (HV.out _ f0).mono ?_
        rintro e1 w1 ⟨rfl, hf1⟩
        have r1 := HB1.out.frm hf1 (by simp)
        have cc1 := r1.cell (i := 0) rfl
        have z1 := r1.frozen 0
        have hcs := World.cell?_setCell_same' w1 ⟨w.heap.size + 1, 0, none⟩ (.slice none 0 0) (by rw [cc1]; rfl)
        have HFI := Lib.hid (HEND.out _ ((f0.trans hf1 (by simp)).setCell (p := ⟨w.heap.size + 1, 0, none⟩) (.inr (by simp)) (.slice none 0 0)))
        clear f0 hf1 r1
        go_wp2_with fail
        refine bodyPost_ret (v := .tuple #[.agg #[.slice none 0 0], .int .i64 1]) (by simp [results, Try.results35, go_sem, hcs]) rfl ?_
        exact HFI.out

end Go.Proofs.Ytfndgiinniibfaa.Ind
