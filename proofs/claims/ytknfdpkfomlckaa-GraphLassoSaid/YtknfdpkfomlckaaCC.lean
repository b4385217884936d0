/- Contract of paths of the reference. Printed by cc.py. -/
import Derived.Test.YtknfdpkfomlckaaCB
import Derived.Test.YtknfdpkfomlckaaB3
namespace Go.Proofs.Ytknfdpkfomlckaa
open Go.RowKit

theorem own_emptyI (w : World) (B : Nat) (hB : B ≤ w.heap.size) : (w.alloc (.cells #[] 3)).ownsRow B 3 1 (.slice (some ⟨w.heap.size, 0, none⟩) 0 0) 0 [] :=
  World.ownsRow_made w #[] 0 hB (by decide) rfl

/-- The targets of the first j arcs that are silent. -/
def tauT (row : List Arc) (j : Nat) : List Nat := ((row.take j).filter (follows true)).map fun a => a.2.toNat
theorem tauT_all {l : Lts} (hv : VLts l) {s : Nat} {row : List Arc} (h : l[s]? = some row) {j : Nat} (hj : row.length ≤ j) : tauT row j = Esel l true s := by
  rw [esel_of h, sel_filter (hv.row row (List.mem_of_getElem? h)), tauT, List.take_of_length_le hj]
theorem tauT_succ {row : List Arc} {j : Nat} {e : Int} {m : Nat} (h : row[j]? = some (e, (m : Int))) : tauT row (j + 1) = if e = 0 then tauT row j ++ [m] else tauT row j := by
  rw [tauT, List.take_add_one, h, Option.toList_some, List.filter_append, List.map_append]
  by_cases he : e = 0
  · rw [if_pos he, List.filter_cons_of_pos (by simp [follows, he])]
    simp [tauT]
  · rw [if_neg he, List.filter_cons_of_neg (by simp [follows, he])]
    simp [tauT]
theorem tauT_len (row : List Arc) (j : Nat) : (tauT row j).length ≤ j := by
  rw [tauT, List.length_map]
  refine Nat.le_trans (List.length_filter_le ..) ?_
  rw [List.length_take]
  omega
def RPathsEnd (B : Nat) (E : Nat → List Nat) (X : List (List Nat)) (w' : World) (e : Ending) : Prop :=
  ∃ (a : Option Addr) (c : Nat) (xs : List Value), e = .returned (.slice a (extL E X).length c) ∧ Ps B w' a c (extL E X) xs
theorem extL_take {E : Nat → List Nat} {X : List (List Nat)} {i : Nat} {q : List Nat} (h : X[i]? = some q) : extL E (X.take (i + 1)) = extL E (X.take i) ++ (E (lastN q)).map fun b => q ++ [b] := by
  rw [List.take_add_one, h, Option.toList_some, extL, List.flatMap_append]
  simp [extL]

set_option linter.unusedSimpArgs false in
set_option maxRecDepth 100000 in
set_option maxHeartbeats 8000000 in
theorem rpaths_any (B0 : Nat) (a : Option Addr) (cap : Nat) (l : Lts) (pa : Option Addr) (pc : Nat) (X : List (List Nat)) (xs : List Value) (N M : Nat) (w : World) (h : LAt B0 w a cap l) (hv : validB l = true) (hp : Ps 0 w pa pc X xs) (hok : LvOk l.length N X) (hNM : N = M + 1) (hNb : N ≤ 100000) (hXb : X.length ≤ 262144) :
    Calls Try.prog 74 #[.agg #[.slice a l.length cap], .slice pa X.length pc] w fun e w' => RPathsEnd w.heap.size (Esel l true) X w' e ∧ Frm [] w w' := by
  have f0 : Frm [] w (w.alloc (.cells #[.slice a l.length cap] 25)) := (Frm.refl [] w).alloc _
  have hcut0 := h.cut
  clear h
  have h := hcut0
  clear hcut0
  have HB := Lib.hid (box1 w (.slice a l.length cap) 25)
  have HL0 := Lib.hid (h.nil f0 rfl)
  have HP0 := Lib.hid (hp.frm f0)
  have HF0 := Lib.hid f0
  have hs0 : (w.alloc (.cells #[.slice a l.length cap] 25)).heap.size = w.heap.size + 1 := by simp only [World.alloc, Array.size_push]
  have HV := Lib.hid (vlts_of hv)
  have hfew := (vlts_of hv).few
  have HOK := Lib.hid hok
  have HNM := Lib.hid hNM
  have hN0 := hok.pos
  have hl := h.lt
  have hbl0 := hp.out.1
  have iX : (X.length : Int) ≤ 262144 := by omega
  have iN : (N : Int) ≤ 100000 := by omega
  have iM : (0 : Int) ≤ (M : Int) := by omega
  have iMN : (M : Int) < (N : Int) := by omega
  have iwr : IntKind.i64.wrap ((N : Int) - 1) = (M : Int) := by
    have : (N : Int) - 1 = (M : Int) := by omega
    rw [this]
    exact IntWalk.i64_in _ (by omega)
  clear h hp hok hNM f0 hv hbl0
  go_enter Try.func74, Try.ntmps74
  go_wp2_with fail
  go_loopg [5, 6] X.length (fun q s5 s6 wr => ∃ (i : Nat) (Y : List (List Nat)) (a5 : Option Addr) (c5 : Nat) (ys : List Value), q = X.length - i ∧ i ≤ X.length ∧ s6 = .int .i64 (i : Int) ∧ s5 = .slice a5 Y.length c5 ∧ Hid (Y = extL (Esel l true) (X.take i)) ∧ Y.length ≤ 262144 * i ∧ Ps (w.heap.size + 1) wr a5 c5 Y ys ∧ Frm [] (w.alloc (.cells #[.slice a l.length cap] 25)) wr)
  case atStart => exact ⟨0, [], none, 0, [], rfl, Nat.zero_le _, rfl, rfl, Lib.hid rfl, Nat.zero_le _, Ps.nil _ _, Frm.refl _ _⟩
  case round =>
    obtain ⟨i, Y, a5, c5, ys, rfl, hi, rfl, rfl, HY, hYl, hps, hF⟩ := hrel
    have HPS := Lib.hid hps
    have HF := Lib.hid hF
    have hszr := hF.size
    have i4 : (0 : Int) ≤ (i : Int) := by omega
    clear hps hF
    by_cases hil : i < X.length
    · have i5 : (i : Int) < (X.length : Int) := by omega
      obtain ⟨q, hq⟩ : ∃ q, X[i]? = some q := ⟨_, List.getElem?_eq_getElem hil⟩
      have hqm := List.mem_of_getElem? hq
      have hql := HOK.out.len q hqm
      obtain ⟨s, hs⟩ : ∃ s, lastN q = s := ⟨_, rfl⟩
      have hsl : s < l.length := by rw [← hs]; exact HOK.out.rng q hqm
      obtain ⟨gp, gq, cq, rfl, hcp, hoq, hcq⟩ := HP0.out.at hq (by omega)
      rw [hql, hs] at hcq
      rw [hql] at hcp hoq
      have hM : N - 1 = M := by have := HNM.out; omega
      rw [hM] at hcq
      have CP0 := Lib.hid hcp
      have HQ0 := Lib.hid hoq
      obtain ⟨row, hrow⟩ : ∃ row, l[s]? = some row := ⟨_, List.getElem?_eq_getElem hsl⟩
      obtain ⟨bl, ol, ra, rc, hla, hblB, q1, hrr⟩ := HL0.out.cell s row hrow
      have hla' := hla
      subst hla'
      have hfewr := (HV.out.row row (List.mem_of_getElem? hrow)).few
      have HRR := Lib.hid hrr
      have Q1 := Lib.hid q1
      have HQX := Lib.hid hq
      have HS := Lib.hid hs
      have HLEN := Lib.hid hql
      have HROW := Lib.hid hrow
      have cb := HF.out.cell (HB.out.cell (i := 0) rfl) (by simp)
      have cp := HF.out.cell CP0.out (by simp)
      have cqm := HF.out.cell hcq (by simp)
      have q2 := HF.out.cell Q1.out (by simp)
      have i6 : (row.length : Int) ≤ 262144 := by omega
      have i7 : (0 : Int) ≤ (s : Int) := by omega
      have i8 : (s : Int) < (l.length : Int) := by omega
      clear hq hqm hql hcp hoq hcq hM hrow hrr q1 hla hs
      go_wp2_with fail
      go_quiet (fail)
      go_wp2_with fail
      go_loopg [5, 8] row.length (fun qq s5 s8 wr => ∃ (j : Nat) (Y : List (List Nat)) (a5 : Option Addr) (c5 : Nat) (ys : List Value), qq = row.length - j ∧ j ≤ row.length ∧ s8 = .int .i64 (j : Int) ∧ s5 = .slice a5 Y.length c5 ∧ Hid (Y = extL (Esel l true) (X.take i) ++ (tauT row j).map fun b => q ++ [b]) ∧ Y.length ≤ 262144 * i + j ∧ Ps (w.heap.size + 1) wr a5 c5 Y ys ∧ Frm [] (w.alloc (.cells #[.slice (some ⟨bl, ol, none⟩) l.length cap] 25)) wr)
      case atStart => exact ⟨0, Y, a5, c5, ys, rfl, Nat.zero_le _, rfl, rfl, Lib.hid (by rw [HY.out]; simp [tauT]), by omega, HPS.out.frm ((Frm.refl [] wr).drewN _), HF.out.drewN _⟩
      case round =>
        clear HY hYl HPS HF hszr cb cp cqm q2
        obtain ⟨j, Y, a5, c5, ys, rfl, hj, rfl, rfl, HY, hYl, hps, hF⟩ := hrel
        have HPS := Lib.hid hps
        have HF7 := Lib.hid hF
        have hsz7 : w.heap.size ≤ wr.heap.size := Nat.le_trans HF0.out.size hF.size
        have hsz8 := hF.size
        rw [hs0] at hsz8
        have cb7 := hF.cell (HB.out.cell (i := 0) rfl) (by simp)
        have cp7 := hF.cell CP0.out (by simp)
        have q7 := hF.cell Q1.out (by simp)
        have HQ := Lib.hid (ownsB_frm HQ0.out hF (by simp))
        have i9 : (0 : Int) ≤ (j : Int) := by omega
        clear hps hF
        by_cases hjl : j < row.length
        · have i10 : (j : Int) < (row.length : Int) := by omega
          obtain ⟨⟨e, t⟩, harc⟩ : ∃ y, row[j]? = some y := ⟨_, List.getElem?_eq_getElem hjl⟩
          have hok := (HV.out.row row (List.mem_of_getElem? HROW.out)).ok e t (List.mem_of_getElem? harc)
          obtain ⟨m, rfl⟩ : ∃ m : Nat, t = (m : Int) := ⟨t.toNat, by omega⟩
          have hml : m < l.length := by omega
          obtain ⟨g4, o4, rfl, hg4, p1, p2⟩ := HRR.out.2.2.2 j e m harc
          have d1 := HF7.out.cell p1 (by simp)
          have d2 := HF7.out.cell p2 (by simp)
          have HARC := Lib.hid harc
          have hbb := World.block_lt_of_cell? _ _ (HB.out.cell (i := 0) rfl)
          have hbp := World.block_lt_of_cell? _ _ CP0.out
          have hbq := World.block_lt_of_cell? _ _ Q1.out
          have hbd := World.block_lt_of_cell? _ _ p2
          simp only at hbb hbp hbq hbd
          rw [hs0] at hbp hbq hbd
          clear harc hok p1 p2
          by_cases he0 : e = 0
          · have HY2 : Hid (Y ++ [q ++ [m]] = extL (Esel l true) (X.take i) ++ (tauT row (j + 1)).map fun b => q ++ [b]) := Lib.hid (by
              rw [tauT_succ HARC.out, if_pos he0, HY.out, List.map_append, List.append_assoc]
              rfl)
            subst he0
            go_wp2_with fail
            refine wp_region_held_drew (S := fun w' => w'.cell? ⟨w.heap.size, 0, none⟩ = some (.slice (some ⟨bl, ol, none⟩) l.length cap) ∧ w'.cell? ⟨gp, i, none⟩ = some (.slice (some ⟨gq, 0, none⟩) N cq) ∧ w'.cell? ⟨bl, ol + s, none⟩ = some (.slice (some ⟨g4, o4, none⟩) row.length rc) ∧ w'.cell? ⟨g4, o4 + j * 2 + 1, none⟩ = some (.int .i64 (m : Int))) (by kernel_rfl) (⟨((Frm.refl [] wr).drew).cell cb7 (by simp), ((Frm.refl [] wr).drew).cell cp7 (by simp), ((Frm.refl [] wr).drew).cell q7 (by simp), ((Frm.refl [] wr).drew).cell d2 (by simp)⟩) ?_
            intro hHeld
            obtain ⟨wz, hwz⟩ : ∃ x, x = wr.drew := ⟨_, rfl⟩
            have fwz : Frm [] wr wz := by rw [hwz]; exact (Frm.refl [] wr).drew
            rw [← hwz] at hHeld ⊢
            clear hwz
            refine wpAnyH_take (i := 0) (v := ?_) rfl (by kernel_rfl) (by kernel_rfl) (by kernel_rfl) (fun _ _ _ h => h) (Or.inl ⟨by rfl, ?_⟩) (by assumption) ?_
            rotate_left
            · intro w9 hS9
              try dsimp only at hS9
              go_split_ands
              go_simp
              try with_reducible rfl
            try simp only [Act.put, List.getElem_toArray, List.getElem_cons_succ, List.getElem_cons_zero, List.setIfInBounds_toArray, List.set_cons_zero, List.set_cons_succ]
            refine wpAnyH_take (i := 2) (v := ?_) rfl (by kernel_rfl) (by kernel_rfl) (by kernel_rfl) (fun _ _ _ h => h) (Or.inl ⟨by rfl, ?_⟩) (by assumption) ?_
            rotate_left
            · intro w9 hS9
              try dsimp only at hS9
              go_split_ands
              go_simp
              try with_reducible rfl
            try simp only [Act.put, List.getElem_toArray, List.getElem_cons_succ, List.getElem_cons_zero, List.setIfInBounds_toArray, List.set_cons_zero, List.set_cons_succ]
            refine wpAnyH_take (i := 3) (v := ?_) rfl (by kernel_rfl) (by kernel_rfl) (by kernel_rfl) (fun _ _ _ h => h) (Or.inl ⟨by rfl, ?_⟩) (by assumption) ?_
            rotate_left
            · intro w9 hS9
              try dsimp only at hS9
              go_split_ands
              go_simp
              try with_reducible rfl
            try simp only [Act.put, List.getElem_toArray, List.getElem_cons_succ, List.getElem_cons_zero, List.setIfInBounds_toArray, List.set_cons_zero, List.set_cons_succ]
            refine wpAnyH_take (i := 4) (v := ?_) rfl (by kernel_rfl) (by kernel_rfl) (by kernel_rfl) (fun _ _ _ h => h) (Or.inl ⟨by rfl, ?_⟩) (by assumption) ?_
            rotate_left
            · intro w9 hS9
              try dsimp only at hS9
              go_split_ands
              go_simp
              try with_reducible rfl
            try simp only [Act.put, List.getElem_toArray, List.getElem_cons_succ, List.getElem_cons_zero, List.setIfInBounds_toArray, List.set_cons_zero, List.set_cons_succ]
            refine wpAnyH_take (i := 5) (v := ?_) rfl (by kernel_rfl) (by kernel_rfl) (by kernel_rfl) (fun _ _ _ h => h) (Or.inl ⟨by rfl, ?_⟩) (by assumption) ?_
            rotate_left
            · intro w9 hS9
              try dsimp only at hS9
              go_split_ands
              go_simp
              try with_reducible rfl
            try simp only [Act.put, List.getElem_toArray, List.getElem_cons_succ, List.getElem_cons_zero, List.setIfInBounds_toArray, List.set_cons_zero, List.set_cons_succ]
            refine wpAnyH_take (i := 7) (v := ?_) rfl (by kernel_rfl) (by kernel_rfl) (by kernel_rfl) (fun _ _ _ h => h) (Or.inl ⟨by rfl, ?_⟩) (by assumption) ?_
            rotate_left
            · intro w9 hS9
              try dsimp only at hS9
              go_split_ands
              go_simp
              try with_reducible rfl
            try simp only [Act.put, List.getElem_toArray, List.getElem_cons_succ, List.getElem_cons_zero, List.setIfInBounds_toArray, List.set_cons_zero, List.set_cons_succ]
            refine wpAnyH_take (i := 8) (v := ?_) rfl (by kernel_rfl) (by kernel_rfl) (by kernel_rfl) (fun _ _ _ h => h) (Or.inl ⟨by rfl, ?_⟩) (by assumption) ?_
            rotate_left
            · intro w9 hS9
              try dsimp only at hS9
              go_split_ands
              go_simp
              try with_reducible rfl
            try simp only [Act.put, List.getElem_toArray, List.getElem_cons_succ, List.getElem_cons_zero, List.setIfInBounds_toArray, List.set_cons_zero, List.set_cons_succ]
            refine wpAnyH_take (i := 9) (v := ?_) rfl (by kernel_rfl) (by kernel_rfl) (by kernel_rfl) (fun _ _ _ h => h) (Or.inl ⟨by rfl, ?_⟩) (by assumption) ?_
            rotate_left
            · intro w9 hS9
              try dsimp only at hS9
              go_split_ands
              go_simp
              try with_reducible rfl
            try simp only [Act.put, List.getElem_toArray, List.getElem_cons_succ, List.getElem_cons_zero, List.setIfInBounds_toArray, List.set_cons_zero, List.set_cons_succ]
            refine wpAnyH_take (i := 10) (v := ?_) rfl (by kernel_rfl) (by kernel_rfl) (by kernel_rfl) (fun _ _ _ h => h) (Or.inl ⟨by rfl, ?_⟩) (by assumption) ?_
            rotate_left
            · intro w9 hS9
              try dsimp only at hS9
              go_split_ands
              go_simp
              try with_reducible rfl
            try simp only [Act.put, List.getElem_toArray, List.getElem_cons_succ, List.getElem_cons_zero, List.setIfInBounds_toArray, List.set_cons_zero, List.set_cons_succ]
            refine wpAnyH_take (i := 11) (v := ?_) rfl (by kernel_rfl) (by kernel_rfl) (by kernel_rfl) (fun _ _ _ h => h) (Or.inl ⟨by rfl, ?_⟩) (by assumption) ?_
            rotate_left
            · intro w9 hS9
              try dsimp only at hS9
              go_split_ands
              go_simp
              try with_reducible rfl
            try simp only [Act.put, List.getElem_toArray, List.getElem_cons_succ, List.getElem_cons_zero, List.setIfInBounds_toArray, List.set_cons_zero, List.set_cons_succ]
            refine wpAnyH_take (i := 12) (v := ?_) rfl (by kernel_rfl) (by kernel_rfl) (by kernel_rfl) (fun _ _ _ h => h) (Or.inl ⟨by rfl, ?_⟩) (by assumption) ?_
            rotate_left
            · intro w9 hS9
              try dsimp only at hS9
              go_split_ands
              go_simp
              try with_reducible rfl
            try simp only [Act.put, List.getElem_toArray, List.getElem_cons_succ, List.getElem_cons_zero, List.setIfInBounds_toArray, List.set_cons_zero, List.set_cons_succ]
            refine wpAnyH_take (i := 13) (v := ?_) rfl (by kernel_rfl) (by kernel_rfl) (by kernel_rfl) (fun _ _ _ h => h) (Or.inl ⟨by rfl, ?_⟩) (by assumption) ?_
            rotate_left
            · intro w9 hS9
              try dsimp only at hS9
              go_split_ands
              go_simp
              try with_reducible rfl
            try simp only [Act.put, List.getElem_toArray, List.getElem_cons_succ, List.getElem_cons_zero, List.setIfInBounds_toArray, List.set_cons_zero, List.set_cons_succ]
            refine wpAnyH_take (i := 14) (v := ?_) rfl (by kernel_rfl) (by kernel_rfl) (by kernel_rfl) (fun _ _ _ h => h) (Or.inl ⟨by rfl, ?_⟩) (by assumption) ?_
            rotate_left
            · intro w9 hS9
              try dsimp only at hS9
              go_split_ands
              go_simp
              try with_reducible rfl
            try simp only [Act.put, List.getElem_toArray, List.getElem_cons_succ, List.getElem_cons_zero, List.setIfInBounds_toArray, List.set_cons_zero, List.set_cons_succ]
            refine wpAnyH_take (i := 15) (v := ?_) rfl (by kernel_rfl) (by kernel_rfl) (by kernel_rfl) (fun _ _ _ h => h) (Or.inl ⟨by rfl, ?_⟩) (by assumption) ?_
            rotate_left
            · intro w9 hS9
              try dsimp only at hS9
              go_split_ands
              go_simp
              try with_reducible rfl
            try simp only [Act.put, List.getElem_toArray, List.getElem_cons_succ, List.getElem_cons_zero, List.setIfInBounds_toArray, List.set_cons_zero, List.set_cons_succ]
            refine wpAnyH_ready (rs := [1, 16]) (by kernel_rfl) (by simp) ?_
            refine AllReadyH.cons rfl (fun K hK => ?_) (AllReadyH.cons rfl (fun K hK => ?_) AllReadyH.nil)
            · go_simp
              have fwa : Frm [] wr (wz.alloc (.cells #[] 3)) := fwz.alloc _
              refine hK.out _ _ ?_ (fun hHeld => ?_)
              · exact ⟨fwa.cell cb7 (by simp), fwa.cell cp7 (by simp), fwa.cell q7 (by simp), fwa.cell d2 (by simp)⟩
              clear hK K
              try simp only [Act.put, List.getElem_toArray, List.getElem_cons_succ, List.getElem_cons_zero, List.setIfInBounds_toArray, List.set_cons_zero, List.set_cons_succ]
              obtain ⟨wa, hwa⟩ : ∃ x, x = wz.alloc (.cells #[] 3) := ⟨_, rfl⟩
              have OE : wa.ownsRow wr.heap.size 3 1 (.slice (some ⟨wz.heap.size, 0, none⟩) 0 0) 0 [] := by rw [hwa]; exact own_emptyI wz wr.heap.size fwz.size
              have lowa := fwz.size
              have ltwa := (OE.lt wz.heap.size rfl).2
              have ge := Nat.le_refl wz.heap.size
              rw [← hwa] at fwa hHeld ⊢
              have pwa : Frm [] wz wa := by rw [hwa]; exact (Frm.refl [] wz).alloc _
              clear hwa
              refine wpAnyH_ready (rs := [6, 16]) (by kernel_rfl) (by simp) ?_
              refine AllReadyH.cons rfl (fun K hK => ?_) (AllReadyH.cons rfl (fun K hK => ?_) AllReadyH.nil)
              · refine step_app_all rfl (.tmp 48) (.tmp 52) rfl wr.heap.size N gq cq wz.heap.size (natI q) rfl OE rfl (ownsB_frm HQ.out fwa (by simp)) hN0 (by omega) fwa.size wa.heap.size rfl ?_
                intro g6 c6 wc OR gwc
                have fwc := fwa.trans gwc (by simp; omega)
                refine hK.out _ _ ?_ (fun hHeld => ?_)
                · exact ⟨fwc.cell cb7 (by simp), fwc.cell cp7 (by simp), fwc.cell q7 (by simp), fwc.cell d2 (by simp)⟩
                clear hK K
                try simp only [Act.put, List.getElem_toArray, List.getElem_cons_succ, List.getElem_cons_zero, List.setIfInBounds_toArray, List.set_cons_zero, List.set_cons_succ]
                refine wpAnyH_ready (rs := [16]) (by kernel_rfl) (by simp) ?_
                refine AllReadyH.cons rfl (fun K hK => ?_) AllReadyH.nil
                go_simp
                have fwd : Frm [] wr (wc.alloc (.cells #[.int .i64 (m : Int)] 3)) := fwc.alloc _
                refine hK.out _ _ ?_ (fun hHeld => ?_)
                · exact ⟨fwd.cell cb7 (by simp), fwd.cell cp7 (by simp), fwd.cell q7 (by simp), fwd.cell d2 (by simp)⟩
                clear hK K
                try simp only [Act.put, List.getElem_toArray, List.getElem_cons_succ, List.getElem_cons_zero, List.setIfInBounds_toArray, List.set_cons_zero, List.set_cons_succ]
                obtain ⟨wd, hwd⟩ : ∃ x, x = wc.alloc (.cells #[.int .i64 (m : Int)] 3) := ⟨_, rfl⟩
                have CT : wd.cell? ⟨wc.heap.size, 0, none⟩ = some (.int .i64 (m : Int)) := by rw [hwd]; exact (RowAt.made wc 3 [.int .i64 (m : Int)] #[.int .i64 (m : Int)] rfl).cell (i := 0) rfl
                have ltwd := World.block_lt_of_cell? _ _ CT
                simp only at ltwd
                rw [← hwd] at fwd hHeld ⊢
                have pwd : Frm [] wc wd := by rw [hwd]; exact (Frm.refl [] wc).alloc _
                clear hwd
                refine wpAnyH_ready (rs := [17]) (by kernel_rfl) (by simp) ?_
                refine AllReadyH.cons rfl (fun K hK => ?_) AllReadyH.nil
                refine step_app_i rfl (.tmp 53) (.tmp 63) rfl wr.heap.size N (.slice (some ⟨g6, 0, none⟩) N c6) (natI q) rfl (ownsB_frm OR pwd (by simp)) ⟨wc.heap.size, 0, none⟩ 1 (m : Int) rfl (CT) (by omega) fwd.size wd.heap.size rfl ?_
                intro g8 c8 we O8 gwe _
                have fwe := fwd.trans gwe (fun x hx => .inr (own_ge (ownsB_frm OR pwd (by simp)) x hx))
                refine hK.out _ _ ?_ (fun hHeld => ?_)
                · exact ⟨fwe.cell cb7 (by simp), fwe.cell cp7 (by simp), fwe.cell q7 (by simp), fwe.cell d2 (by simp)⟩
                clear hK K
                try simp only [Act.put, List.getElem_toArray, List.getElem_cons_succ, List.getElem_cons_zero, List.setIfInBounds_toArray, List.set_cons_zero, List.set_cons_succ]
                refine wpAnyH_ready (rs := [18]) (by kernel_rfl) (by simp) ?_
                refine AllReadyH.cons rfl (fun K hK => ?_) AllReadyH.nil
                go_simp
                have f9 : Frm [] wr (we.alloc (.cells #[.slice (some ⟨g8, 0, none⟩) (N + 1) c8] 22)) := fwe.alloc _
                refine hK.out _ _ ?_ (fun hHeld => ?_)
                · exact ⟨f9.cell cb7 (by simp), f9.cell cp7 (by simp), f9.cell q7 (by simp), f9.cell d2 (by simp)⟩
                clear hK K
                try simp only [Act.put, List.getElem_toArray, List.getElem_cons_succ, List.getElem_cons_zero, List.setIfInBounds_toArray, List.set_cons_zero, List.set_cons_succ]
                obtain ⟨w9, hw9⟩ : ∃ x, x = we.alloc (.cells #[.slice (some ⟨g8, 0, none⟩) (N + 1) c8] 22) := ⟨_, rfl⟩
                have C9 : w9.cell? ⟨we.heap.size, 0, none⟩ = some (.slice (some ⟨g8, 0, none⟩) (N + 1) c8) := by rw [hw9]; exact (RowAt.made we 22 [.slice (some ⟨g8, 0, none⟩) (N + 1) c8] #[.slice (some ⟨g8, 0, none⟩) (N + 1) c8] rfl).cell (i := 0) rfl
                have O9 : w9.ownsRow 0 3 1 (.slice (some ⟨g8, 0, none⟩) (N + 1) c8) (N + 1) (ints (natI q ++ [(m : Int)])) := by rw [hw9]; exact ownsB_mono (O8.alloc _) (Nat.zero_le _)
                rw [← hw9] at f9 hHeld ⊢
                clear hw9
                refine wpAnyH_ready (rs := [19]) (by kernel_rfl) (by simp) ?_
                refine AllReadyH.cons rfl (fun K hK => ?_) AllReadyH.nil
                have PY := HPS.out.frm f9
                refine step_app_ps rfl (.tmp 47) (.tmp 65) rfl (w.heap.size + 1) Y.length (.slice a5 Y.length c5) ys rfl PY.out ⟨we.heap.size, 0, none⟩ 1 (some ⟨g8, 0, none⟩) (N + 1) c8 rfl C9 (by omega) (Nat.le_trans hsz8 f9.size) w9.heap.size rfl ?_
                intro g10 c10 w10 O10 f10
                have hq1 : (q ++ [m]).length = N + 1 := by rw [List.length_append, HLEN.out]; rfl
                have P10 : Ps (w.heap.size + 1) w10 (some ⟨g10, 0, none⟩) c10 (Y ++ [q ++ [m]]) (ys ++ [.slice (some ⟨g8, 0, none⟩) (q ++ [m]).length c8]) := PY.push (by rw [hq1, natI, List.map_append]; exact O9) (by rw [hq1]; exact O10) f10
                have HP10 := Lib.hid P10
                have HF10 := Lib.hid ((HF7.out.trans f9 (by simp)).trans f10 (fun x hx => .inr (by rw [hs0]; exact own_ge HPS.out.out x hx)))
                refine hK.out _ _ ?_ (fun hHeld => ?_)
                · exact ⟨f10.cell (f9.cell cb7 (by simp)) (fun hm => by have := own_ge HPS.out.out _ hm; simp at this; omega), f10.cell (f9.cell cp7 (by simp)) (fun hm => by have := own_ge HPS.out.out _ hm; simp at this; omega), f10.cell (f9.cell q7 (by simp)) (fun hm => by have := own_ge HPS.out.out _ hm; simp at this; omega), f10.cell (f9.cell d2 (by simp)) (fun hm => by have := own_ge HPS.out.out _ hm; simp at this; omega)⟩
                clear hK K
                try simp only [Act.put, List.getElem_toArray, List.getElem_cons_succ, List.getElem_cons_zero, List.setIfInBounds_toArray, List.set_cons_zero, List.set_cons_succ]
                refine wpAnyH_take (i := 20) (v := ?_) rfl (by kernel_rfl) (by kernel_rfl) (by kernel_rfl) (fun _ _ _ h => h) (Or.inl ⟨by rfl, ?_⟩) (by assumption) ?_
                rotate_left
                · intro w9 hS9
                  try dsimp only at hS9
                  go_split_ands
                  go_simp
                  try with_reducible rfl
                try simp only [Act.put, List.getElem_toArray, List.getElem_cons_succ, List.getElem_cons_zero, List.setIfInBounds_toArray, List.set_cons_zero, List.set_cons_succ]
                refine wpAnyH_done (by kernel_rfl) ?_ _
                go_wp2_with fail
                go_roundg (row.length - (j + 1))
                case rel => exact ⟨j + 1, Y ++ [q ++ [m]], _, _, _, rfl, hjl, by go_num, by rw [List.length_append]; rfl, HY2.out, by rw [List.length_append]; simp; omega, HP10.out, HF10.out⟩
                case measure => omega
              · go_simp
                have fwb : Frm [] wr (wa.alloc (.cells #[.int .i64 (m : Int)] 3)) := fwa.alloc _
                refine hK.out _ _ ?_ (fun hHeld => ?_)
                · exact ⟨fwb.cell cb7 (by simp), fwb.cell cp7 (by simp), fwb.cell q7 (by simp), fwb.cell d2 (by simp)⟩
                clear hK K
                try simp only [Act.put, List.getElem_toArray, List.getElem_cons_succ, List.getElem_cons_zero, List.setIfInBounds_toArray, List.set_cons_zero, List.set_cons_succ]
                obtain ⟨wb, hwb⟩ : ∃ x, x = wa.alloc (.cells #[.int .i64 (m : Int)] 3) := ⟨_, rfl⟩
                have CT : wb.cell? ⟨wa.heap.size, 0, none⟩ = some (.int .i64 (m : Int)) := by rw [hwb]; exact (RowAt.made wa 3 [.int .i64 (m : Int)] #[.int .i64 (m : Int)] rfl).cell (i := 0) rfl
                have ltwb := World.block_lt_of_cell? _ _ CT
                simp only at ltwb
                rw [← hwb] at fwb hHeld ⊢
                have pwb : Frm [] wa wb := by rw [hwb]; exact (Frm.refl [] wa).alloc _
                clear hwb
                have OE := ownsB_frm OE pwb (by simp)
                refine wpAnyH_ready (rs := [6]) (by kernel_rfl) (by simp) ?_
                refine AllReadyH.cons rfl (fun K hK => ?_) AllReadyH.nil
                refine step_app_all rfl (.tmp 48) (.tmp 52) rfl wr.heap.size N gq cq wz.heap.size (natI q) rfl OE rfl (ownsB_frm HQ.out fwb (by simp)) hN0 (by omega) fwb.size wb.heap.size rfl ?_
                intro g6 c6 wc OR gwc
                have fwc := fwb.trans gwc (by simp; omega)
                refine hK.out _ _ ?_ (fun hHeld => ?_)
                · exact ⟨fwc.cell cb7 (by simp), fwc.cell cp7 (by simp), fwc.cell q7 (by simp), fwc.cell d2 (by simp)⟩
                clear hK K
                try simp only [Act.put, List.getElem_toArray, List.getElem_cons_succ, List.getElem_cons_zero, List.setIfInBounds_toArray, List.set_cons_zero, List.set_cons_succ]
                refine wpAnyH_ready (rs := [17]) (by kernel_rfl) (by simp) ?_
                refine AllReadyH.cons rfl (fun K hK => ?_) AllReadyH.nil
                refine step_app_i rfl (.tmp 53) (.tmp 63) rfl wr.heap.size N (.slice (some ⟨g6, 0, none⟩) N c6) (natI q) rfl (OR) ⟨wa.heap.size, 0, none⟩ 1 (m : Int) rfl (by rw [Addr.add_lit]; exact gwc.cell CT (by simp; omega)) (by omega) fwc.size wc.heap.size rfl ?_
                intro g8 c8 we O8 gwe _
                have fwe := fwc.trans gwe (fun x hx => .inr (own_ge (OR) x hx))
                refine hK.out _ _ ?_ (fun hHeld => ?_)
                · exact ⟨fwe.cell cb7 (by simp), fwe.cell cp7 (by simp), fwe.cell q7 (by simp), fwe.cell d2 (by simp)⟩
                clear hK K
                try simp only [Act.put, List.getElem_toArray, List.getElem_cons_succ, List.getElem_cons_zero, List.setIfInBounds_toArray, List.set_cons_zero, List.set_cons_succ]
                refine wpAnyH_ready (rs := [18]) (by kernel_rfl) (by simp) ?_
                refine AllReadyH.cons rfl (fun K hK => ?_) AllReadyH.nil
                go_simp
                have f9 : Frm [] wr (we.alloc (.cells #[.slice (some ⟨g8, 0, none⟩) (N + 1) c8] 22)) := fwe.alloc _
                refine hK.out _ _ ?_ (fun hHeld => ?_)
                · exact ⟨f9.cell cb7 (by simp), f9.cell cp7 (by simp), f9.cell q7 (by simp), f9.cell d2 (by simp)⟩
                clear hK K
                try simp only [Act.put, List.getElem_toArray, List.getElem_cons_succ, List.getElem_cons_zero, List.setIfInBounds_toArray, List.set_cons_zero, List.set_cons_succ]
                obtain ⟨w9, hw9⟩ : ∃ x, x = we.alloc (.cells #[.slice (some ⟨g8, 0, none⟩) (N + 1) c8] 22) := ⟨_, rfl⟩
                have C9 : w9.cell? ⟨we.heap.size, 0, none⟩ = some (.slice (some ⟨g8, 0, none⟩) (N + 1) c8) := by rw [hw9]; exact (RowAt.made we 22 [.slice (some ⟨g8, 0, none⟩) (N + 1) c8] #[.slice (some ⟨g8, 0, none⟩) (N + 1) c8] rfl).cell (i := 0) rfl
                have O9 : w9.ownsRow 0 3 1 (.slice (some ⟨g8, 0, none⟩) (N + 1) c8) (N + 1) (ints (natI q ++ [(m : Int)])) := by rw [hw9]; exact ownsB_mono (O8.alloc _) (Nat.zero_le _)
                rw [← hw9] at f9 hHeld ⊢
                clear hw9
                refine wpAnyH_ready (rs := [19]) (by kernel_rfl) (by simp) ?_
                refine AllReadyH.cons rfl (fun K hK => ?_) AllReadyH.nil
                have PY := HPS.out.frm f9
                refine step_app_ps rfl (.tmp 47) (.tmp 65) rfl (w.heap.size + 1) Y.length (.slice a5 Y.length c5) ys rfl PY.out ⟨we.heap.size, 0, none⟩ 1 (some ⟨g8, 0, none⟩) (N + 1) c8 rfl C9 (by omega) (Nat.le_trans hsz8 f9.size) w9.heap.size rfl ?_
                intro g10 c10 w10 O10 f10
                have hq1 : (q ++ [m]).length = N + 1 := by rw [List.length_append, HLEN.out]; rfl
                have P10 : Ps (w.heap.size + 1) w10 (some ⟨g10, 0, none⟩) c10 (Y ++ [q ++ [m]]) (ys ++ [.slice (some ⟨g8, 0, none⟩) (q ++ [m]).length c8]) := PY.push (by rw [hq1, natI, List.map_append]; exact O9) (by rw [hq1]; exact O10) f10
                have HP10 := Lib.hid P10
                have HF10 := Lib.hid ((HF7.out.trans f9 (by simp)).trans f10 (fun x hx => .inr (by rw [hs0]; exact own_ge HPS.out.out x hx)))
                refine hK.out _ _ ?_ (fun hHeld => ?_)
                · exact ⟨f10.cell (f9.cell cb7 (by simp)) (fun hm => by have := own_ge HPS.out.out _ hm; simp at this; omega), f10.cell (f9.cell cp7 (by simp)) (fun hm => by have := own_ge HPS.out.out _ hm; simp at this; omega), f10.cell (f9.cell q7 (by simp)) (fun hm => by have := own_ge HPS.out.out _ hm; simp at this; omega), f10.cell (f9.cell d2 (by simp)) (fun hm => by have := own_ge HPS.out.out _ hm; simp at this; omega)⟩
                clear hK K
                try simp only [Act.put, List.getElem_toArray, List.getElem_cons_succ, List.getElem_cons_zero, List.setIfInBounds_toArray, List.set_cons_zero, List.set_cons_succ]
                refine wpAnyH_take (i := 20) (v := ?_) rfl (by kernel_rfl) (by kernel_rfl) (by kernel_rfl) (fun _ _ _ h => h) (Or.inl ⟨by rfl, ?_⟩) (by assumption) ?_
                rotate_left
                · intro w9 hS9
                  try dsimp only at hS9
                  go_split_ands
                  go_simp
                  try with_reducible rfl
                try simp only [Act.put, List.getElem_toArray, List.getElem_cons_succ, List.getElem_cons_zero, List.setIfInBounds_toArray, List.set_cons_zero, List.set_cons_succ]
                refine wpAnyH_done (by kernel_rfl) ?_ _
                go_wp2_with fail
                go_roundg (row.length - (j + 1))
                case rel => exact ⟨j + 1, Y ++ [q ++ [m]], _, _, _, rfl, hjl, by go_num, by rw [List.length_append]; rfl, HY2.out, by rw [List.length_append]; simp; omega, HP10.out, HF10.out⟩
                case measure => omega
            · go_simp
              have fwa : Frm [] wr (wz.alloc (.cells #[.int .i64 (m : Int)] 3)) := fwz.alloc _
              refine hK.out _ _ ?_ (fun hHeld => ?_)
              · exact ⟨fwa.cell cb7 (by simp), fwa.cell cp7 (by simp), fwa.cell q7 (by simp), fwa.cell d2 (by simp)⟩
              clear hK K
              try simp only [Act.put, List.getElem_toArray, List.getElem_cons_succ, List.getElem_cons_zero, List.setIfInBounds_toArray, List.set_cons_zero, List.set_cons_succ]
              obtain ⟨wa, hwa⟩ : ∃ x, x = wz.alloc (.cells #[.int .i64 (m : Int)] 3) := ⟨_, rfl⟩
              have CT : wa.cell? ⟨wz.heap.size, 0, none⟩ = some (.int .i64 (m : Int)) := by rw [hwa]; exact (RowAt.made wz 3 [.int .i64 (m : Int)] #[.int .i64 (m : Int)] rfl).cell (i := 0) rfl
              have ltwa := World.block_lt_of_cell? _ _ CT
              simp only at ltwa
              rw [← hwa] at fwa hHeld ⊢
              have pwa : Frm [] wz wa := by rw [hwa]; exact (Frm.refl [] wz).alloc _
              clear hwa
              refine wpAnyH_ready (rs := [1]) (by kernel_rfl) (by simp) ?_
              refine AllReadyH.cons rfl (fun K hK => ?_) AllReadyH.nil
              go_simp
              have fwb : Frm [] wr (wa.alloc (.cells #[] 3)) := fwa.alloc _
              refine hK.out _ _ ?_ (fun hHeld => ?_)
              · exact ⟨fwb.cell cb7 (by simp), fwb.cell cp7 (by simp), fwb.cell q7 (by simp), fwb.cell d2 (by simp)⟩
              clear hK K
              try simp only [Act.put, List.getElem_toArray, List.getElem_cons_succ, List.getElem_cons_zero, List.setIfInBounds_toArray, List.set_cons_zero, List.set_cons_succ]
              obtain ⟨wb, hwb⟩ : ∃ x, x = wa.alloc (.cells #[] 3) := ⟨_, rfl⟩
              have OE : wb.ownsRow wr.heap.size 3 1 (.slice (some ⟨wa.heap.size, 0, none⟩) 0 0) 0 [] := by rw [hwb]; exact own_emptyI wa wr.heap.size fwa.size
              have lowb := fwa.size
              have ltwb := (OE.lt wa.heap.size rfl).2
              have ge := Nat.le_refl wa.heap.size
              rw [← hwb] at fwb hHeld ⊢
              have pwb : Frm [] wa wb := by rw [hwb]; exact (Frm.refl [] wa).alloc _
              clear hwb
              refine wpAnyH_ready (rs := [6]) (by kernel_rfl) (by simp) ?_
              refine AllReadyH.cons rfl (fun K hK => ?_) AllReadyH.nil
              refine step_app_all rfl (.tmp 48) (.tmp 52) rfl wr.heap.size N gq cq wa.heap.size (natI q) rfl OE rfl (ownsB_frm HQ.out fwb (by simp)) hN0 (by omega) fwb.size wb.heap.size rfl ?_
              intro g6 c6 wc OR gwc
              have fwc := fwb.trans gwc (by simp; omega)
              refine hK.out _ _ ?_ (fun hHeld => ?_)
              · exact ⟨fwc.cell cb7 (by simp), fwc.cell cp7 (by simp), fwc.cell q7 (by simp), fwc.cell d2 (by simp)⟩
              clear hK K
              try simp only [Act.put, List.getElem_toArray, List.getElem_cons_succ, List.getElem_cons_zero, List.setIfInBounds_toArray, List.set_cons_zero, List.set_cons_succ]
              refine wpAnyH_ready (rs := [17]) (by kernel_rfl) (by simp) ?_
              refine AllReadyH.cons rfl (fun K hK => ?_) AllReadyH.nil
              refine step_app_i rfl (.tmp 53) (.tmp 63) rfl wr.heap.size N (.slice (some ⟨g6, 0, none⟩) N c6) (natI q) rfl (OR) ⟨wz.heap.size, 0, none⟩ 1 (m : Int) rfl (by rw [Addr.add_lit]; exact gwc.cell (pwb.cell CT (by simp)) (by simp; omega)) (by omega) fwc.size wc.heap.size rfl ?_
              intro g8 c8 we O8 gwe _
              have fwe := fwc.trans gwe (fun x hx => .inr (own_ge (OR) x hx))
              refine hK.out _ _ ?_ (fun hHeld => ?_)
              · exact ⟨fwe.cell cb7 (by simp), fwe.cell cp7 (by simp), fwe.cell q7 (by simp), fwe.cell d2 (by simp)⟩
              clear hK K
              try simp only [Act.put, List.getElem_toArray, List.getElem_cons_succ, List.getElem_cons_zero, List.setIfInBounds_toArray, List.set_cons_zero, List.set_cons_succ]
              refine wpAnyH_ready (rs := [18]) (by kernel_rfl) (by simp) ?_
              refine AllReadyH.cons rfl (fun K hK => ?_) AllReadyH.nil
              go_simp
              have f9 : Frm [] wr (we.alloc (.cells #[.slice (some ⟨g8, 0, none⟩) (N + 1) c8] 22)) := fwe.alloc _
              refine hK.out _ _ ?_ (fun hHeld => ?_)
              · exact ⟨f9.cell cb7 (by simp), f9.cell cp7 (by simp), f9.cell q7 (by simp), f9.cell d2 (by simp)⟩
              clear hK K
              try simp only [Act.put, List.getElem_toArray, List.getElem_cons_succ, List.getElem_cons_zero, List.setIfInBounds_toArray, List.set_cons_zero, List.set_cons_succ]
              obtain ⟨w9, hw9⟩ : ∃ x, x = we.alloc (.cells #[.slice (some ⟨g8, 0, none⟩) (N + 1) c8] 22) := ⟨_, rfl⟩
              have C9 : w9.cell? ⟨we.heap.size, 0, none⟩ = some (.slice (some ⟨g8, 0, none⟩) (N + 1) c8) := by rw [hw9]; exact (RowAt.made we 22 [.slice (some ⟨g8, 0, none⟩) (N + 1) c8] #[.slice (some ⟨g8, 0, none⟩) (N + 1) c8] rfl).cell (i := 0) rfl
              have O9 : w9.ownsRow 0 3 1 (.slice (some ⟨g8, 0, none⟩) (N + 1) c8) (N + 1) (ints (natI q ++ [(m : Int)])) := by rw [hw9]; exact ownsB_mono (O8.alloc _) (Nat.zero_le _)
              rw [← hw9] at f9 hHeld ⊢
              clear hw9
              refine wpAnyH_ready (rs := [19]) (by kernel_rfl) (by simp) ?_
              refine AllReadyH.cons rfl (fun K hK => ?_) AllReadyH.nil
              have PY := HPS.out.frm f9
              refine step_app_ps rfl (.tmp 47) (.tmp 65) rfl (w.heap.size + 1) Y.length (.slice a5 Y.length c5) ys rfl PY.out ⟨we.heap.size, 0, none⟩ 1 (some ⟨g8, 0, none⟩) (N + 1) c8 rfl C9 (by omega) (Nat.le_trans hsz8 f9.size) w9.heap.size rfl ?_
              intro g10 c10 w10 O10 f10
              have hq1 : (q ++ [m]).length = N + 1 := by rw [List.length_append, HLEN.out]; rfl
              have P10 : Ps (w.heap.size + 1) w10 (some ⟨g10, 0, none⟩) c10 (Y ++ [q ++ [m]]) (ys ++ [.slice (some ⟨g8, 0, none⟩) (q ++ [m]).length c8]) := PY.push (by rw [hq1, natI, List.map_append]; exact O9) (by rw [hq1]; exact O10) f10
              have HP10 := Lib.hid P10
              have HF10 := Lib.hid ((HF7.out.trans f9 (by simp)).trans f10 (fun x hx => .inr (by rw [hs0]; exact own_ge HPS.out.out x hx)))
              refine hK.out _ _ ?_ (fun hHeld => ?_)
              · exact ⟨f10.cell (f9.cell cb7 (by simp)) (fun hm => by have := own_ge HPS.out.out _ hm; simp at this; omega), f10.cell (f9.cell cp7 (by simp)) (fun hm => by have := own_ge HPS.out.out _ hm; simp at this; omega), f10.cell (f9.cell q7 (by simp)) (fun hm => by have := own_ge HPS.out.out _ hm; simp at this; omega), f10.cell (f9.cell d2 (by simp)) (fun hm => by have := own_ge HPS.out.out _ hm; simp at this; omega)⟩
              clear hK K
              try simp only [Act.put, List.getElem_toArray, List.getElem_cons_succ, List.getElem_cons_zero, List.setIfInBounds_toArray, List.set_cons_zero, List.set_cons_succ]
              refine wpAnyH_take (i := 20) (v := ?_) rfl (by kernel_rfl) (by kernel_rfl) (by kernel_rfl) (fun _ _ _ h => h) (Or.inl ⟨by rfl, ?_⟩) (by assumption) ?_
              rotate_left
              · intro w9 hS9
                try dsimp only at hS9
                go_split_ands
                go_simp
                try with_reducible rfl
              try simp only [Act.put, List.getElem_toArray, List.getElem_cons_succ, List.getElem_cons_zero, List.setIfInBounds_toArray, List.set_cons_zero, List.set_cons_succ]
              refine wpAnyH_done (by kernel_rfl) ?_ _
              go_wp2_with fail
              go_roundg (row.length - (j + 1))
              case rel => exact ⟨j + 1, Y ++ [q ++ [m]], _, _, _, rfl, hjl, by go_num, by rw [List.length_append]; rfl, HY2.out, by rw [List.length_append]; simp; omega, HP10.out, HF10.out⟩
              case measure => omega
          · have heb : (e == 0) = false := by simpa using he0
            have HY2 : Hid (Y = extL (Esel l true) (X.take i) ++ (tauT row (j + 1)).map fun b => q ++ [b]) := Lib.hid (by
              rw [tauT_succ HARC.out, if_neg he0, HY.out])
            go_wp2_with fail
            go_roundg (row.length - (j + 1))
            case rel => exact ⟨j + 1, Y, a5, c5, ys, rfl, hjl, by go_num, rfl, HY2, by omega, HPS.out, HF7.out⟩
            case measure => omega
        · have i10 : ¬ (j : Int) < (row.length : Int) := by omega
          have HY2 : Hid (Y = extL (Esel l true) (X.take (i + 1))) := Lib.hid (by
            rw [extL_take HQX.out, HS.out, ← tauT_all HV.out HROW.out (show row.length ≤ j by omega)]
            exact HY.out)
          go_wp2_with fail
          go_roundg (X.length - (i + 1))
          case rel => exact ⟨i + 1, Y, a5, c5, ys, rfl, hil, by go_num, rfl, HY2, by omega, HPS.out, HF7.out⟩
          case measure => omega
    · have i5 : ¬ (i : Int) < (X.length : Int) := by omega
      have HE : Hid (RPathsEnd w.heap.size (Esel l true) X wr (.returned (.slice a5 Y.length c5))) := Lib.hid (by
        have h1 := HY.out
        rw [List.take_of_length_le (by omega)] at h1
        subst h1
        exact ⟨a5, c5, ys, rfl, HPS.out.mono (by omega)⟩)
      have HFE := Lib.hid (HF0.out.trans HF.out (by simp))
      go_wp2_with fail
      go_ret
      exact ⟨HE.out, HFE.out⟩

end Go.Proofs.Ytknfdpkfomlckaa
