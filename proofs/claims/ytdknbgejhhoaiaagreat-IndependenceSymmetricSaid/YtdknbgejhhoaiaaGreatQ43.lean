/- Contract of machine: a register machine drawn from the tape. (Printed by wip/tools/m4.py.) -/
import Derived.Test.YtdknbgejhhoaiaaGreatQ28
import Derived.Deep.RegionHeld3
namespace Go.Proofs.YtdknbgejhhoaiaaGreat.Ind
open Go.Shelf Go.RowKit Go.Lib
set_option linter.unusedSimpArgs false in
set_option maxRecDepth 100000 in
set_option maxHeartbeats 8000000 in
theorem machine_any (B tb N : Nat) (norm : Bool) (w : World) (h : TapeOk B w tb N) (hB : B ≤ tb) (hN : N ≤ 800000000) :
    Calls Tryz.prog 6 #[.pointer (some ⟨tb, 0, none⟩), .bool norm] w (MachEnd B tb N w norm) := by
  have hlt := h.lt
  have n1 := next_any B tb N 3 _ (h.nil ((Frm.refl [] w).alloc (.cells mZero 30))) hB (by omega) (by omega)
  unfold mZero at n1
  clear h
  cases norm
  · skip
    go_enter Tryz.func6, Tryz.ntmps6
    go_wp2_with fail
    refine n1.mono ?_
    rintro e1 w1 ⟨⟨rr, rfl, hrr, -⟩, hT1, hf1⟩
    obtain ⟨r, rfl⟩ : ∃ r : Nat, rr = (r : Int) := ⟨rr.toNat, by omega⟩
    have hr : r ≤ 2 := by omega
    clear hrr
    go_wp2_with fail
    refine (next_any B tb (N + 1) 3 w1 hT1 hB (by omega) (by omega)).mono ?_
    rintro e2 w2 ⟨⟨y, rfl, hy, -⟩, hT2, hf2⟩
    obtain ⟨n, hn⟩ : ∃ n : Nat, 1 + y = (n : Int) := ⟨(1 + y).toNat, by omega⟩
    have hn1 : 1 ≤ n := by omega
    have hn3 : n ≤ 3 := by omega
    have hy1 : 0 ≤ y := by omega
    have hy2 : y ≤ 2 := by omega
    clear hy
    have HN := Lib.hid hn
    clear hn
    go_wp2_with (first | (at_make; refine wpl_make_rows _ rfl (.tmp 13) rfl _ n rfl HN.out (by omega) ?_) | (at_make; fail))
    intro w3 own3 hf3
    have hMO : MO B tb (N + 2) w (w3.alloc (.cells #[.int .i64 r, .int .i64 2, .int .i64 1, .slice (some ⟨w2.heap.size, 0, none⟩) n n] 30)) r n w2.heap.size w3.heap.size [] n := by
      obtain ⟨g3, cp3, e3, _, _, _, hrow3⟩ := ownsB_some own3 (by omega)
      obtain ⟨rfl, rfl⟩ : w2.heap.size = g3 ∧ n = cp3 := by simpa using e3
      have s1 := hf1.size
      have s2 := hf2.size
      simp at s1
      have hF : Frm [tb] w w3 := ((((Frm.refl [tb] w).alloc _).trans hf1 (fun x hx => .inl hx)).trans hf2 (fun x hx => .inl hx)).trans hf3 (by simp)
      exact ⟨Bx.new (hT2.nil hf3) hF hB hlt _ rfl, ((((RowAt.made w 30 mZero.toList mZero rfl).frm hf1 (by simp; omega)).frm hf2 (by simp; omega)).frm hf3 (by simp)).alloc _, by omega, hrow3.lt, hn3, by simp, by simpa using hrow3.alloc _, by simp⟩
    clear hT1 hT2 hf1 hf2 hf3 own3 hy1 hy2 HN n1
    generalize w2.heap.size = b at *
    go_wp2_with fail
    generalize w3.heap.size = g at *
    generalize w3.alloc (.cells #[.int .i64 r, .int .i64 2, .int .i64 1, .slice (some ⟨b, 0, none⟩) n n] 30) = W0 at *
    go_loopg [6, 7, 8] n (fun q t6 _ _ wr => ∃ (k rest : Nat) (done : List (Value × List RA)), q = n - k ∧ k ≤ n ∧ t6 = .int .i64 k ∧ rest = n - k ∧ done.length = k ∧ MO B tb (N + 2 + 31 * k) w wr r n b g done rest ∧ (∀ row ∈ done.map (·.2), (row.length ≤ 3 ∧ ∀ a ∈ row, arcOk r n a) ∧ row ≠ []) ∧ True)
    case atStart => exact ⟨0, n, [], rfl, Nat.zero_le _, rfl, rfl, rfl, hMO, by simp, trivial⟩
    case round =>
      obtain ⟨k, rest, done, hq, hk, rfl, hrest, hdl, hM, hgood, hnorm⟩ := hrel
      have HQ := Lib.hid hq
      have HREST := Lib.hid hrest
      have HDL := Lib.hid hdl
      have HGOOD := Lib.hid hgood
      have HNORM := Lib.hid hnorm
      clear hq hrest hdl hgood hnorm
      have i4 : (0 : Int) ≤ (k : Int) := by omega
      have c3 := hM.bx.row.cell (i := 3) rfl
      by_cases hlt9 : k < n
      · have i5 : (k : Int) < (n : Int) := by omega
        go_wp2_with fail
        refine (next_any B tb (N + 2 + 31 * k) 3 _ hM.bx.tape hB (by omega) (by omega)).mono ?_
        rintro e4 w4 ⟨⟨y, rfl, hy, -⟩, hT4, hf4⟩
        obtain ⟨cnt, rfl⟩ : ∃ cnt : Nat, y = (cnt : Int) := ⟨y.toNat, by omega⟩
        have hcnt : cnt ≤ 2 := by omega
        obtain ⟨rest', HR'⟩ : ∃ rest', Hid (rest = rest' + 1) := ⟨rest - 1, Lib.hid (by have := HREST.out; omega)⟩
        have hS : MS B tb (N + 2 + 31 * k + 1) w w4 r n b g done nilV [] rest' := by
          have h9 := hM.next hT4 hf4
          rw [HR'.out] at h9
          exact h9.open_
        have hy9 : (0 : Int) ≤ (cnt : Int) := by omega
        clear hM hT4 hf4 hy c3
        obtain ⟨wx, hwx⟩ : ∃ x, x = wr := ⟨wr, rfl⟩
        subst hwx
        go_wp2_with fail
        go_loopg [7, 8] (cnt + 1) (fun q t7 _ wr => ∃ (j : Nat) (v : Value) (l : List (Value × RA)), q = cnt + 1 - j ∧ j ≤ cnt + 1 ∧ t7 = .int .i64 (1 + (cnt : Int) - j) ∧ MS B tb (N + 2 + 31 * k + 1 + 10 * j) w wr r n b g done v l rest' ∧ l.length ≤ j ∧ (∀ a ∈ l.map (·.2), arcOk r n a) ∧ l.length = j)
        case atStart =>
          refine ⟨0, nilV, [], rfl, Nat.zero_le _, by go_num, hS, Nat.le_refl _, by simp, ?_⟩
          rfl
        case round =>
          obtain ⟨j, v, l, hq2, hj, rfl, hS, hll, hok, hnx⟩ := hrel
          have HQ2 := Lib.hid hq2
          have HNX := Lib.hid hnx
          have HOK := Lib.hid hok
          have HLL := Lib.hid hll
          have HJ := Lib.hid hj
          clear hq2 hnx hok hll
          by_cases hj9 : j < cnt + 1
          · have i6 : (0 : Int) < 1 + (cnt : Int) - j := by omega
            have i7 : 1 + (cnt : Int) - j ≤ 3 := by omega
            have c0 := hS.bx.row.cell (i := 0) rfl
            have c3 := hS.bx.row.cell (i := 3) rfl
            have hT := hS.bx.tape
            go_wp2_with fail
            refine (arc_any B tb (N + 2 + 31 * k + 1 + 10 * j) r n false wr hT hB (by omega) (by omega) hn1 (by omega)).mono ?_
            rintro e5 w5 ⟨va, a, rfl, hna, harc, hT5, hf5⟩
            obtain ⟨na, nc, rfl⟩ := RowV.shape (hna [] (by simp))
            have hS5 := hS.next hT5 hf5
            have hNA : NotAt w5 (tb :: w.heap.size :: b :: v.ownBlock.toList) (.slice na a.not.length nc) a := hna _ (fun x hx => by
              have e1 := hS.bx.lt
              have e2 := hS.bx.frm.size
              have e3 := hS.res.lt
              have e4 := hS.row.lt
              simp only [List.mem_cons] at hx
              rcases hx with rfl | rfl | rfl | hx
              · omega
              · omega
              · exact e4
              · exact (hS.own.lt x (Option.mem_toList.1 hx)).2)
            clear hT c0 c3 hS hna hT5 hf5
            unfold arcV
            obtain ⟨v1, v2, rfl, _⟩ := owns_shape (ownsB_mono hS5.own (Nat.zero_le _))
            have F6 : Frm [] w5 (w5.alloc (.cells #[.int .i64 a.kind, .int .i64 a.ch, .int .i64 a.reg, .int .i64 a.frm, .slice na a.not.length nc, .int .i64 a.to] 47)) := (Frm.refl [] w5).alloc _
            have hx6 := RowAt.made w5 47 [.int .i64 a.kind, .int .i64 a.ch, .int .i64 a.reg, .int .i64 a.frm, .slice na a.not.length nc, .int .i64 a.to] #[.int .i64 a.kind, .int .i64 a.ch, .int .i64 a.reg, .int .i64 a.frm, .slice na a.not.length nc, .int .i64 a.to] rfl
            have HOX5 : ∀ z, (Value.slice v1 l.length v2).ownBlock = some z → z < w5.heap.size := fun z hz => (hS5.own.lt z hz).2
            have hS6 := hS5.nil F6
            have HNA := Lib.hid (RowV.nil hNA F6)
            have HARC := Lib.hid harc
            clear hNA harc hS5 F6
            go_wp2_with fail
            generalize w5.alloc (.cells #[.int .i64 a.kind, .int .i64 a.ch, .int .i64 a.reg, .int .i64 a.frm, .slice na a.not.length nc, .int .i64 a.to] 47) = w6 at *
            generalize w5.heap.size = x6 at *
            have c3 := hS6.bx.row.cell (i := 3) rfl
            have hbk := hS6.row.cell (i := k) (v := .slice v1 l.length v2) (by rw [List.getElem?_append_right (by simp [HDL.out]), List.length_map, HDL.out, Nat.sub_self]; rfl)
            have zbk := hS6.row.frozen k
            have a0 := hx6.cell (i := 0) rfl
            have a1 := hx6.cell (i := 1) rfl
            have a2 := hx6.cell (i := 2) rfl
            have a3 := hx6.cell (i := 3) rfl
            have a4 := hx6.cell (i := 4) rfl
            have a5 := hx6.cell (i := 5) rfl
            have nb6 : b < w6.heap.size := hS6.row.lt
            have ng6 : g < w6.heap.size := hS6.bx.row.lt
            have nx6 : x6 < w6.heap.size := hx6.lt
            have HOX : Hid (∀ z, (Value.slice v1 l.length v2).ownBlock = some z → z < x6) := Lib.hid HOX5
            have C3 := Lib.hid c3
            have BK := Lib.hid hbk
            have ZK := Lib.hid zbk
            have HX := Lib.hid hx6
            have HS := Lib.hid hS6
            have HK9 := Lib.hid hk
            have HJ9 := Lib.hid hj9
            clear hS6 hx6 hj9 hj hk
            have i4 : (0 : Int) ≤ (k : Int) := by omega
            have KEEP : Hid (∀ (fp : List Nat) (w' : World), Frm fp w6 w' → (∀ z ∈ fp, g < z ∧ z ≠ x6) → w'.cell? ⟨g, 3, none⟩ = some (.slice (some ⟨b, 0, none⟩) n n) ∧ w'.cell? ⟨b, k, none⟩ = some (.slice v1 l.length v2) ∧ w'.frozen? ⟨b, k, none⟩ = false ∧ w'.cell? ⟨x6, 0, none⟩ = some (.int .i64 a.kind) ∧ w'.cell? ⟨x6, 1, none⟩ = some (.int .i64 a.ch) ∧ w'.cell? ⟨x6, 2, none⟩ = some (.int .i64 a.reg) ∧ w'.cell? ⟨x6, 3, none⟩ = some (.int .i64 a.frm) ∧ w'.cell? ⟨x6, 4, none⟩ = some (.slice na a.not.length nc) ∧ w'.cell? ⟨x6, 5, none⟩ = some (.int .i64 a.to)) := Lib.hid fun fp w' hf hz => by
              have hb : b ∉ fp := fun hm => by have := (hz _ hm).1; have := HS.out.o2; omega
              have hx := HX.out.frm hf (fun hm => (hz _ hm).2 rfl)
              exact ⟨hf.cell C3.out (fun hm => by have := (hz _ hm).1; simp at this), hf.cell BK.out hb, hf.frz BK.out ZK.out hb, hx.cell (i := 0) rfl, hx.cell (i := 1) rfl, hx.cell (i := 2) rfl, hx.cell (i := 3) rfl, hx.cell (i := 4) rfl, hx.cell (i := 5) rfl⟩
            have HD : Hid (Frm [] w6 w6.drew) := Lib.hid (Frm.refl [] w6).drew
            refine' wp_region_last (L := 12) _ (fun w' => w'.cell? ⟨g, 3, none⟩ = some (.slice (some ⟨b, 0, none⟩) n n) ∧ w'.cell? ⟨b, k, none⟩ = some (.slice v1 l.length v2) ∧ w'.frozen? ⟨b, k, none⟩ = false ∧ w'.cell? ⟨x6, 0, none⟩ = some (.int .i64 a.kind) ∧ w'.cell? ⟨x6, 1, none⟩ = some (.int .i64 a.ch) ∧ w'.cell? ⟨x6, 2, none⟩ = some (.int .i64 a.reg) ∧ w'.cell? ⟨x6, 3, none⟩ = some (.int .i64 a.frm) ∧ w'.cell? ⟨x6, 4, none⟩ = some (.slice na a.not.length nc) ∧ w'.cell? ⟨x6, 5, none⟩ = some (.int .i64 a.to)) (by kernel_rfl) rfl rfl rfl rfl ?he (by kernel_rfl) (by kernel_rfl) ?hS ?h
            case he =>
              simp only [nopOf, List.getElem_toArray, List.getElem_cons_succ, List.getElem_cons_zero, List.setIfInBounds_toArray, List.set_cons_succ, List.set_cons_zero]
              rfl
            case hS => exact KEEP.out [] _ HD.out (by simp)
            intro hHeld
            refine wpAnyH_take (i := 0) (v := ?_) rfl (by kernel_rfl) (by kernel_rfl) (by kernel_rfl) (fun _ _ _ h => h) (Or.inl ⟨by rfl, ?_⟩) (by assumption) ?_
            rotate_left
            · intro w9 hS9
              try dsimp only at hS9
              go_split_ands
              go_simp
              try with_reducible rfl
            try simp only [Act.put, List.getElem_toArray, List.getElem_cons_succ, List.getElem_cons_zero, List.setIfInBounds_toArray, List.set_cons_zero, List.set_cons_succ]
            refine wpAnyH_take (i := 1) (v := ?_) rfl (by kernel_rfl) (by kernel_rfl) (by kernel_rfl) (fun _ _ _ h => h) (Or.inl ⟨by rfl, ?_⟩) (by assumption) ?_
            rotate_left
            · intro w9 hS9
              try dsimp only at hS9
              go_split_ands
              go_simp
              try with_reducible rfl
            try simp only [Act.put, List.getElem_toArray, List.getElem_cons_succ, List.getElem_cons_zero, List.setIfInBounds_toArray, List.set_cons_zero, List.set_cons_succ]
            refine wpAnyH_take (i := 2) (v := ?_) rfl (by kernel_rfl) (by kernel_rfl) (by kernel_rfl) (fun _ _ _ h => h) (Or.inl ⟨by rfl, ?_⟩) (by assumption) ?_
            rotate_left
            · intro w9 hS9
              try dsimp only at hS9
              go_split_ands
              go_simp
              try with_reducible rfl
            try simp only [Act.put, List.getElem_toArray, List.getElem_cons_succ, List.getElem_cons_zero, List.setIfInBounds_toArray, List.set_cons_zero, List.set_cons_succ]
            refine wpAnyH_take (i := 3) (v := ?_) rfl (by kernel_rfl) (by kernel_rfl) (by kernel_rfl) (fun _ _ _ h => h) (Or.inl ⟨by rfl, ?_⟩) (by assumption) ?_
            rotate_left
            · intro w9 hS9
              try dsimp only at hS9
              go_split_ands
              go_simp
              try with_reducible rfl
            try simp only [Act.put, List.getElem_toArray, List.getElem_cons_succ, List.getElem_cons_zero, List.setIfInBounds_toArray, List.set_cons_zero, List.set_cons_succ]
            refine wpAnyH_take (i := 4) (v := ?_) rfl (by kernel_rfl) (by kernel_rfl) (by kernel_rfl) (fun _ _ _ h => h) (Or.inl ⟨by rfl, ?_⟩) (by assumption) ?_
            rotate_left
            · intro w9 hS9
              try dsimp only at hS9
              go_split_ands
              go_simp
              try with_reducible rfl
            try simp only [Act.put, List.getElem_toArray, List.getElem_cons_succ, List.getElem_cons_zero, List.setIfInBounds_toArray, List.set_cons_zero, List.set_cons_succ]
            refine wpAnyH_take (i := 5) (v := ?_) rfl (by kernel_rfl) (by kernel_rfl) (by kernel_rfl) (fun _ _ _ h => h) (Or.inl ⟨by rfl, ?_⟩) (by assumption) ?_
            rotate_left
            · intro w9 hS9
              try dsimp only at hS9
              go_split_ands
              go_simp
              try with_reducible rfl
            try simp only [Act.put, List.getElem_toArray, List.getElem_cons_succ, List.getElem_cons_zero, List.setIfInBounds_toArray, List.set_cons_zero, List.set_cons_succ]
            refine wpAnyH_take (i := 6) (v := ?_) rfl (by kernel_rfl) (by kernel_rfl) (by kernel_rfl) (fun _ _ _ h => h) (Or.inl ⟨by rfl, ?_⟩) (by assumption) ?_
            rotate_left
            · intro w9 hS9
              try dsimp only at hS9
              go_split_ands
              go_simp
              try with_reducible rfl
            try simp only [Act.put, List.getElem_toArray, List.getElem_cons_succ, List.getElem_cons_zero, List.setIfInBounds_toArray, List.set_cons_zero, List.set_cons_succ]
            refine wpAnyH_take (i := 7) (v := ?_) rfl (by kernel_rfl) (by kernel_rfl) (by kernel_rfl) (fun _ _ _ h => h) (Or.inl ⟨by rfl, ?_⟩) (by assumption) ?_
            rotate_left
            · intro w9 hS9
              try dsimp only at hS9
              go_split_ands
              go_simp
              try with_reducible rfl
            try simp only [Act.put, List.getElem_toArray, List.getElem_cons_succ, List.getElem_cons_zero, List.setIfInBounds_toArray, List.set_cons_zero, List.set_cons_succ]
            refine wpAnyH_take (i := 8) (v := ?_) rfl (by kernel_rfl) (by kernel_rfl) (by kernel_rfl) (fun _ _ _ h => h) (Or.inl ⟨by rfl, ?_⟩) (by assumption) ?_
            rotate_left
            · intro w9 hS9
              try dsimp only at hS9
              go_split_ands
              go_simp
              try with_reducible rfl
            try simp only [Act.put, List.getElem_toArray, List.getElem_cons_succ, List.getElem_cons_zero, List.setIfInBounds_toArray, List.set_cons_zero, List.set_cons_succ]
            refine wpAnyH_ready (rs := [9]) (by kernel_rfl) (by simp) ?_
            refine AllReadyH.cons rfl (fun K hK => ?_) AllReadyH.nil
            go_simp
            have F9 : Frm [] w6 (w6.drew.alloc (.cells (arcC (.slice na a.not.length nc, a)).toArray 47)) := (Frm.refl [] w6).drew.alloc _
            have hr9 := RowAt.made w6.drew 47 (arcC (.slice na a.not.length nc, a)) (arcC (.slice na a.not.length nc, a)).toArray rfl
            simp only [arcC, List.toArray] at F9 hr9
            refine hK.out _ _ ?_ (fun hHeld => ?_)
            · exact KEEP.out [] _ F9 (by simp)
            clear hK K
            try simp only [Act.put, List.getElem_toArray, List.getElem_cons_succ, List.getElem_cons_zero, List.setIfInBounds_toArray, List.set_cons_zero, List.set_cons_succ]
            refine wpAnyH_ready (rs := [10]) (by kernel_rfl) (by simp) ?_
            refine AllReadyH.cons rfl (fun K hK => ?_) AllReadyH.nil
            refine step_app_rowL rfl (.tmp 45) (.tmp 47) 49 47 _ 6 64 rfl Tryz.underlying49 infoArc rfl (by decide) (by decide) (g + 1) l.length _ (rowC l) rfl (ownsB_frm HS.out.own F9 (by simp)) _ 1 (arcC (.slice na a.not.length nc, a)) [] rfl (rowV_cells (size := 6) hr9 rfl (Nat.le_refl _) (by decide) (by simp)) (by simp [arcC, Value.oneCell']) (l.length + 1) rfl (by have := HLL.out; have := HJ.out; omega) (by have := HS.out.bx.row.lt; simp; omega) ?_
            intro a7 c7 w7 own7 hf7 hloc7
            have hob7 : ∀ z ∈ (Value.slice v1 l.length v2).ownBlock.toList, g < z ∧ z ≠ x6 := fun z hz => ⟨(HS.out.own.lt z (Option.mem_toList.1 hz)).1, fun e => by have := (HOX.out z (Option.mem_toList.1 hz)); omega⟩
            have F7 : Frm (Value.slice v1 l.length v2).ownBlock.toList w6 w7 := (F9.mono (by simp)).trans hf7 (fun x hx => .inl hx)
            have Y7 := Lib.hid (KEEP.out _ _ F7 hob7).2.2.1
            refine hK.out _ _ ?_ (fun hHeld => ?_)
            · exact KEEP.out _ _ F7 hob7
            clear hK K
            try simp only [Act.put, List.getElem_toArray, List.getElem_cons_succ, List.getElem_cons_zero, List.setIfInBounds_toArray, List.set_cons_zero, List.set_cons_succ]
            refine wpAnyH_take (i := 11) (v := ?_) rfl (by kernel_rfl) (by kernel_rfl) (by kernel_rfl) (fun _ _ _ h => h) (Or.inl ⟨by rfl, ?_⟩) (by assumption) ?_
            rotate_left
            · intro w9 hS9
              try dsimp only at hS9
              go_split_ands
              go_simp
              try with_reducible rfl
            try simp only [Act.put, List.getElem_toArray, List.getElem_cons_succ, List.getElem_cons_zero, List.setIfInBounds_toArray, List.set_cons_zero, List.set_cons_succ]
            refine wpAnyH_take (i := 12) (v := ?_) rfl (by kernel_rfl) (by kernel_rfl) (by kernel_rfl) (fun _ _ _ h => h) (Or.inl ⟨by rfl, ?_⟩) (by assumption) ?_
            rotate_left
            · intro w9 hS9
              try dsimp only at hS9
              go_split_ands
              go_simp
              try with_reducible rfl
            try simp only [Act.put, List.getElem_toArray, List.getElem_cons_succ, List.getElem_cons_zero, List.setIfInBounds_toArray, List.set_cons_zero, List.set_cons_succ]
            refine wpAnyH_done (by kernel_rfl) ?_ _
            refine Qt.last rfl rfl ?_
            simp only [List.getElem_toArray, List.getElem_cons_succ, List.getElem_cons_zero]
            have y7 := Y7.out
            have b7 := (KEEP.out _ _ F7 hob7).2.1
            go_simp
            have HA := Lib.hid (MS.app HS.out F9 own7 hf7 hloc7 HNA.out)
            have HV7 := Lib.hid (show (Value.slice a7 (l.length + 1) c7) = .slice a7 (l.length + 1) c7 from rfl)
            clear hf7 hloc7 F7 hob7 F9 hr9 b7 y7 Y7 own7 HX HNA HS C3 BK ZK HOX HOX5 hHeld c3 hbk zbk a0 a1 a2 a3 a4 a5 nb6 ng6 nx6
            rw [HDL.out] at HA
            generalize w7.setCell ⟨b, k, none⟩ (.slice a7 (l.length + 1) c7) = w8 at *
            go_wp2_with fail
            go_roundg (cnt + 1 - (j + 1))
            case rel => exact ⟨j + 1, _, l ++ [(.slice na a.not.length nc, a)], rfl, by have := HJ9.out; omega, by go_num, HA.out, by have := HLL.out; rw [List.length_append]; simp; omega, fun x hx => by rw [List.map_append, List.mem_append] at hx; rcases hx with hx | hx; exact HOK.out x hx; (obtain rfl : x = a := by simpa using hx); exact HARC.out, by have := HNX.out; rw [List.length_append]; simp; omega⟩
            case measure => have := HQ2.out; have := HJ9.out; omega
          · skip
            have i6 : ¬ (0 : Int) < 1 + (cnt : Int) - j := by omega
            have hjc : j = cnt + 1 := by have := HJ.out; omega
            have HMC := Lib.hid hS.close
            have HJC := Lib.hid hjc
            clear hS hjc hj9 hj
            go_wp2_with fail
            go_roundg (n - (k + 1))
            case rel =>
              refine ⟨k + 1, rest', done ++ [(v, l.map (·.2))], rfl, by omega, by go_num, by have := HR'.out; have := HREST.out; omega, by have := HDL.out; simp; omega, HMC.out.next (HMC.out.bx.tape.mono (by have := HJC.out; omega)) (Frm.refl _ _), fun row hrow => ?_, ?_⟩
              · rw [List.map_append, List.mem_append] at hrow
                rcases hrow with hrow | hrow
                · exact HGOOD.out row hrow
                · obtain rfl : row = l.map (·.2) := by simpa using hrow
                  have h8 := HLL.out
                  have h9 := HNX.out
                  have h7 := HJC.out
                  refine ⟨⟨by rw [List.length_map]; omega, HOK.out⟩, fun e => ?_⟩
                  have h0 : l.length = 0 := by rw [List.map_eq_nil_iff.1 e]; rfl
                  omega
              · trivial
            case measure => have := HQ.out; omega
      · skip
        have i5 : ¬ (k : Int) < (n : Int) := by omega
        have hkn : rest = 0 := by have := HREST.out; omega
        have HD0 : Hid (DrawnM false ⟨r, 2, 1, done.map (·.2)⟩ ∧ (done.map (·.2)).length = n) := Lib.hid (by
          have hl : (done.map (·.2)).length = n := by rw [List.length_map, HDL.out]; omega
          exact ⟨⟨by simp; omega, rfl, rfl, by rw [show (RM.states ⟨r, 2, 1, done.map (·.2)⟩) = done.map (·.2) from rfl, hl]; omega, valid_mk hr hn1 hn3 hl (fun row hrow => (HGOOD.out row hrow).1), (fun e => by cases e), fun _ row hrow => (HGOOD.out row hrow).2, fun row hrow => (HGOOD.out row hrow).1.1⟩, hl⟩)
        have HST : Hid (StatesAt wr [tb, w.heap.size] (.slice (some ⟨b, 0, none⟩) n n) (done.map (·.2))) := Lib.hid (by
          have := hM.states
          rw [hkn, List.replicate_zero, List.append_nil] at this
          exact this)
        have HBX := Lib.hid hM.bx
        have HRES := Lib.hid hM.res
        have ho1 := hM.o1
        have ho2 := hM.o2
        have c0 := HBX.out.row.cell (i := 0) rfl
        have c1 := HBX.out.row.cell (i := 1) rfl
        have c2 := HBX.out.row.cell (i := 2) rfl
        have d0 := HRES.out.cell (i := 0) rfl
        have d1 := HRES.out.cell (i := 1) rfl
        have d2 := HRES.out.cell (i := 2) rfl
        have d3 := HRES.out.cell (i := 3) rfl
        have y0 := HRES.out.frozen 0
        have y1 := HRES.out.frozen 1
        have y2 := HRES.out.frozen 2
        have y3 := HRES.out.frozen 3
        have hwg : ¬ g = w.heap.size := by omega
        have hgw : ¬ w.heap.size = g := by omega
        clear hkn hM
        go_wp2_with fail
        have ho : RowAt ((((wr.setCell ⟨w.heap.size, 0, none⟩ (.int .i64 r)).setCell ⟨w.heap.size, 1, none⟩ (.int .i64 2)).setCell ⟨w.heap.size, 2, none⟩ (.int .i64 1)).setCell ⟨w.heap.size, 3, none⟩ (.slice (some ⟨b, 0, none⟩) n n)) w.heap.size 30 [.int .i64 r, .int .i64 2, .int .i64 1, .slice (some ⟨b, 0, none⟩) n n] := (((HRES.out.setCell 0 _).setCell 1 _).setCell 2 _).setCell 3 _
        have hF : Frm [w.heap.size] wr ((((wr.setCell ⟨w.heap.size, 0, none⟩ (.int .i64 r)).setCell ⟨w.heap.size, 1, none⟩ (.int .i64 2)).setCell ⟨w.heap.size, 2, none⟩ (.int .i64 1)).setCell ⟨w.heap.size, 3, none⟩ (.slice (some ⟨b, 0, none⟩) n n)) := ((((Frm.refl _ wr).setCell (.inl (by simp)) _).setCell (.inl (by simp)) _).setCell (.inl (by simp)) _).setCell (.inl (by simp)) _
        generalize ((((wr.setCell ⟨w.heap.size, 0, none⟩ (.int .i64 r)).setCell ⟨w.heap.size, 1, none⟩ (.int .i64 2)).setCell ⟨w.heap.size, 2, none⟩ (.int .i64 1)).setCell ⟨w.heap.size, 3, none⟩ (.slice (some ⟨b, 0, none⟩) n n)) = W9 at *
        have e0 := ho.cell (i := 0) rfl
        have e1 := ho.cell (i := 1) rfl
        have e2 := ho.cell (i := 2) rfl
        have e3 := ho.cell (i := 3) rfl
        refine bodyPost_ret (v := machV ⟨r, 2, 1, done.map (·.2)⟩ (.slice (some ⟨b, 0, none⟩) n n)) (by simp [results, Tryz.results6, go_sem, e0, e1, e2, e3, machV]) rfl ?_
        have h1 := HBX.out.lt
        have h2 := HBX.out.le
        exact ⟨_, _, rfl, HST.out.step hF (fun x hx => .inl (by simp at hx; simp [hx])) (fun x hx => .inl (by simp at hx; simp [hx])), HD0.out.1, (HBX.out.tape.frm hF (by simp; omega) (by simp; omega)).mono (by omega), HBX.out.frm.trans hF (fun x hx => .inr (by simp at hx; omega))⟩
  · skip
    go_enter Tryz.func6, Tryz.ntmps6
    go_wp2_with fail
    refine n1.mono ?_
    rintro e1 w1 ⟨⟨rr, rfl, hrr, -⟩, hT1, hf1⟩
    obtain ⟨r, rfl⟩ : ∃ r : Nat, rr = (r : Int) := ⟨rr.toNat, by omega⟩
    have hr : r ≤ 2 := by omega
    clear hrr
    go_wp2_with fail
    refine (next_any B tb (N + 1) 3 w1 hT1 hB (by omega) (by omega)).mono ?_
    rintro e2 w2 ⟨⟨y, rfl, hy, -⟩, hT2, hf2⟩
    obtain ⟨n, hn⟩ : ∃ n : Nat, 1 + y = (n : Int) := ⟨(1 + y).toNat, by omega⟩
    have hn1 : 1 ≤ n := by omega
    have hn3 : n ≤ 3 := by omega
    have hy1 : 0 ≤ y := by omega
    have hy2 : y ≤ 2 := by omega
    clear hy
    have HN := Lib.hid hn
    clear hn
    go_wp2_with (first | (at_make; refine wpl_make_rows _ rfl (.tmp 13) rfl _ n rfl HN.out (by omega) ?_) | (at_make; fail))
    intro w3 own3 hf3
    have hMO : MO B tb (N + 2) w (w3.alloc (.cells #[.int .i64 r, .int .i64 2, .int .i64 1, .slice (some ⟨w2.heap.size, 0, none⟩) n n] 30)) r n w2.heap.size w3.heap.size [] n := by
      obtain ⟨g3, cp3, e3, _, _, _, hrow3⟩ := ownsB_some own3 (by omega)
      obtain ⟨rfl, rfl⟩ : w2.heap.size = g3 ∧ n = cp3 := by simpa using e3
      have s1 := hf1.size
      have s2 := hf2.size
      simp at s1
      have hF : Frm [tb] w w3 := ((((Frm.refl [tb] w).alloc _).trans hf1 (fun x hx => .inl hx)).trans hf2 (fun x hx => .inl hx)).trans hf3 (by simp)
      exact ⟨Bx.new (hT2.nil hf3) hF hB hlt _ rfl, ((((RowAt.made w 30 mZero.toList mZero rfl).frm hf1 (by simp; omega)).frm hf2 (by simp; omega)).frm hf3 (by simp)).alloc _, by omega, hrow3.lt, hn3, by simp, by simpa using hrow3.alloc _, by simp⟩
    clear hT1 hT2 hf1 hf2 hf3 own3 hy1 hy2 HN n1
    generalize w2.heap.size = b at *
    go_wp2_with fail
    generalize w3.heap.size = g at *
    generalize w3.alloc (.cells #[.int .i64 r, .int .i64 2, .int .i64 1, .slice (some ⟨b, 0, none⟩) n n] 30) = W0 at *
    go_loopg [6, 7, 8] n (fun q t6 _ _ wr => ∃ (k rest : Nat) (done : List (Value × List RA)), q = n - k ∧ k ≤ n ∧ t6 = .int .i64 k ∧ rest = n - k ∧ done.length = k ∧ MO B tb (N + 2 + 31 * k) w wr r n b g done rest ∧ (∀ row ∈ done.map (·.2), (row.length ≤ 3 ∧ ∀ a ∈ row, arcOk r n a)) ∧ NormM ⟨r, 2, 1, done.map (·.2) ++ List.replicate rest []⟩)
    case atStart => exact ⟨0, n, [], rfl, Nat.zero_le _, rfl, rfl, rfl, hMO, by simp, norm_start hr hn1 hn3⟩
    case round =>
      obtain ⟨k, rest, done, hq, hk, rfl, hrest, hdl, hM, hgood, hnorm⟩ := hrel
      have HQ := Lib.hid hq
      have HREST := Lib.hid hrest
      have HDL := Lib.hid hdl
      have HGOOD := Lib.hid hgood
      have HNORM := Lib.hid hnorm
      clear hq hrest hdl hgood hnorm
      have i4 : (0 : Int) ≤ (k : Int) := by omega
      have c3 := hM.bx.row.cell (i := 3) rfl
      by_cases hlt9 : k < n
      · have i5 : (k : Int) < (n : Int) := by omega
        go_wp2_with fail
        refine (next_any B tb (N + 2 + 31 * k) 3 _ hM.bx.tape hB (by omega) (by omega)).mono ?_
        rintro e4 w4 ⟨⟨y, rfl, hy, -⟩, hT4, hf4⟩
        obtain ⟨cnt, rfl⟩ : ∃ cnt : Nat, y = (cnt : Int) := ⟨y.toNat, by omega⟩
        have hcnt : cnt ≤ 2 := by omega
        obtain ⟨rest', HR'⟩ : ∃ rest', Hid (rest = rest' + 1) := ⟨rest - 1, Lib.hid (by have := HREST.out; omega)⟩
        have hS : MS B tb (N + 2 + 31 * k + 1) w w4 r n b g done nilV [] rest' := by
          have h9 := hM.next hT4 hf4
          rw [HR'.out] at h9
          exact h9.open_
        have hy9 : (0 : Int) ≤ (cnt : Int) := by omega
        clear hM hT4 hf4 hy c3
        obtain ⟨wx, hwx⟩ : ∃ x, x = wr := ⟨wr, rfl⟩
        subst hwx
        go_wp2_with fail
        go_loopg [7, 8] (cnt + 1) (fun q t7 _ wr => ∃ (j : Nat) (v : Value) (l : List (Value × RA)), q = cnt + 1 - j ∧ j ≤ cnt + 1 ∧ t7 = .int .i64 (1 + (cnt : Int) - j) ∧ MS B tb (N + 2 + 31 * k + 1 + 10 * j) w wr r n b g done v l rest' ∧ l.length ≤ j ∧ (∀ a ∈ l.map (·.2), arcOk r n a) ∧ NormM ⟨r, 2, 1, rowsM done (l.map (·.2)) rest'⟩)
        case atStart =>
          refine ⟨0, nilV, [], rfl, Nat.zero_le _, by go_num, hS, Nat.le_refl _, by simp, ?_⟩
          have h9 := HNORM.out
          rw [HR'.out] at h9
          exact h9
        case round =>
          obtain ⟨j, v, l, hq2, hj, rfl, hS, hll, hok, hnx⟩ := hrel
          have HQ2 := Lib.hid hq2
          have HNX := Lib.hid hnx
          have HOK := Lib.hid hok
          have HLL := Lib.hid hll
          have HJ := Lib.hid hj
          clear hq2 hnx hok hll
          by_cases hj9 : j < cnt + 1
          · have i6 : (0 : Int) < 1 + (cnt : Int) - j := by omega
            have i7 : 1 + (cnt : Int) - j ≤ 3 := by omega
            have c0 := hS.bx.row.cell (i := 0) rfl
            have c3 := hS.bx.row.cell (i := 3) rfl
            have hT := hS.bx.tape
            go_wp2_with fail
            refine (arc_any B tb (N + 2 + 31 * k + 1 + 10 * j) r n true wr hT hB (by omega) (by omega) hn1 (by omega)).mono ?_
            rintro e5 w5 ⟨va, a, rfl, hna, harc, hT5, hf5⟩
            obtain ⟨na, nc, rfl⟩ := RowV.shape (hna [] (by simp))
            have hS5 := hS.next hT5 hf5
            have hNA : NotAt w5 (tb :: w.heap.size :: b :: v.ownBlock.toList) (.slice na a.not.length nc) a := hna _ (fun x hx => by
              have e1 := hS.bx.lt
              have e2 := hS.bx.frm.size
              have e3 := hS.res.lt
              have e4 := hS.row.lt
              simp only [List.mem_cons] at hx
              rcases hx with rfl | rfl | rfl | hx
              · omega
              · omega
              · exact e4
              · exact (hS.own.lt x (Option.mem_toList.1 hx)).2)
            clear hT c0 c3 hS hna hT5 hf5
            unfold arcV
            obtain ⟨v1, v2, rfl, _⟩ := owns_shape (ownsB_mono hS5.own (Nat.zero_le _))
            have F6 : Frm [] w5 (w5.alloc (.cells #[.int .i64 a.kind, .int .i64 a.ch, .int .i64 a.reg, .int .i64 a.frm, .slice na a.not.length nc, .int .i64 a.to] 47)) := (Frm.refl [] w5).alloc _
            have hx6 := RowAt.made w5 47 [.int .i64 a.kind, .int .i64 a.ch, .int .i64 a.reg, .int .i64 a.frm, .slice na a.not.length nc, .int .i64 a.to] #[.int .i64 a.kind, .int .i64 a.ch, .int .i64 a.reg, .int .i64 a.frm, .slice na a.not.length nc, .int .i64 a.to] rfl
            have HOX5 : ∀ z, (Value.slice v1 l.length v2).ownBlock = some z → z < w5.heap.size := fun z hz => (hS5.own.lt z hz).2
            have hS6 := hS5.nil F6
            have HNA := Lib.hid (RowV.nil hNA F6)
            have HARC := Lib.hid harc
            clear hNA harc hS5 F6
            go_wp2_with fail
            generalize w5.alloc (.cells #[.int .i64 a.kind, .int .i64 a.ch, .int .i64 a.reg, .int .i64 a.frm, .slice na a.not.length nc, .int .i64 a.to] 47) = w6 at *
            generalize w5.heap.size = x6 at *
            have c3 := hS6.bx.row.cell (i := 3) rfl
            have hbk := hS6.row.cell (i := k) (v := .slice v1 l.length v2) (by rw [List.getElem?_append_right (by simp [HDL.out]), List.length_map, HDL.out, Nat.sub_self]; rfl)
            have zbk := hS6.row.frozen k
            have a0 := hx6.cell (i := 0) rfl
            have a1 := hx6.cell (i := 1) rfl
            have a2 := hx6.cell (i := 2) rfl
            have a3 := hx6.cell (i := 3) rfl
            have a4 := hx6.cell (i := 4) rfl
            have a5 := hx6.cell (i := 5) rfl
            have nb6 : b < w6.heap.size := hS6.row.lt
            have ng6 : g < w6.heap.size := hS6.bx.row.lt
            have nx6 : x6 < w6.heap.size := hx6.lt
            have HOX : Hid (∀ z, (Value.slice v1 l.length v2).ownBlock = some z → z < x6) := Lib.hid HOX5
            have C3 := Lib.hid c3
            have BK := Lib.hid hbk
            have ZK := Lib.hid zbk
            have HX := Lib.hid hx6
            have HS := Lib.hid hS6
            have HK9 := Lib.hid hk
            have HJ9 := Lib.hid hj9
            clear hS6 hx6 hj9 hj hk
            have i4 : (0 : Int) ≤ (k : Int) := by omega
            have KEEP : Hid (∀ (fp : List Nat) (w' : World), Frm fp w6 w' → (∀ z ∈ fp, g < z ∧ z ≠ x6) → w'.cell? ⟨g, 3, none⟩ = some (.slice (some ⟨b, 0, none⟩) n n) ∧ w'.cell? ⟨b, k, none⟩ = some (.slice v1 l.length v2) ∧ w'.frozen? ⟨b, k, none⟩ = false ∧ w'.cell? ⟨x6, 0, none⟩ = some (.int .i64 a.kind) ∧ w'.cell? ⟨x6, 1, none⟩ = some (.int .i64 a.ch) ∧ w'.cell? ⟨x6, 2, none⟩ = some (.int .i64 a.reg) ∧ w'.cell? ⟨x6, 3, none⟩ = some (.int .i64 a.frm) ∧ w'.cell? ⟨x6, 4, none⟩ = some (.slice na a.not.length nc) ∧ w'.cell? ⟨x6, 5, none⟩ = some (.int .i64 a.to)) := Lib.hid fun fp w' hf hz => by
              have hb : b ∉ fp := fun hm => by have := (hz _ hm).1; have := HS.out.o2; omega
              have hx := HX.out.frm hf (fun hm => (hz _ hm).2 rfl)
              exact ⟨hf.cell C3.out (fun hm => by have := (hz _ hm).1; simp at this), hf.cell BK.out hb, hf.frz BK.out ZK.out hb, hx.cell (i := 0) rfl, hx.cell (i := 1) rfl, hx.cell (i := 2) rfl, hx.cell (i := 3) rfl, hx.cell (i := 4) rfl, hx.cell (i := 5) rfl⟩
            have HD : Hid (Frm [] w6 w6.drew) := Lib.hid (Frm.refl [] w6).drew
            refine' wp_region_last (L := 12) _ (fun w' => w'.cell? ⟨g, 3, none⟩ = some (.slice (some ⟨b, 0, none⟩) n n) ∧ w'.cell? ⟨b, k, none⟩ = some (.slice v1 l.length v2) ∧ w'.frozen? ⟨b, k, none⟩ = false ∧ w'.cell? ⟨x6, 0, none⟩ = some (.int .i64 a.kind) ∧ w'.cell? ⟨x6, 1, none⟩ = some (.int .i64 a.ch) ∧ w'.cell? ⟨x6, 2, none⟩ = some (.int .i64 a.reg) ∧ w'.cell? ⟨x6, 3, none⟩ = some (.int .i64 a.frm) ∧ w'.cell? ⟨x6, 4, none⟩ = some (.slice na a.not.length nc) ∧ w'.cell? ⟨x6, 5, none⟩ = some (.int .i64 a.to)) (by kernel_rfl) rfl rfl rfl rfl ?he (by kernel_rfl) (by kernel_rfl) ?hS ?h
            case he =>
              simp only [nopOf, List.getElem_toArray, List.getElem_cons_succ, List.getElem_cons_zero, List.setIfInBounds_toArray, List.set_cons_succ, List.set_cons_zero]
              rfl
            case hS => exact KEEP.out [] _ HD.out (by simp)
            intro hHeld
            refine wpAnyH_take (i := 0) (v := ?_) rfl (by kernel_rfl) (by kernel_rfl) (by kernel_rfl) (fun _ _ _ h => h) (Or.inl ⟨by rfl, ?_⟩) (by assumption) ?_
            rotate_left
            · intro w9 hS9
              try dsimp only at hS9
              go_split_ands
              go_simp
              try with_reducible rfl
            try simp only [Act.put, List.getElem_toArray, List.getElem_cons_succ, List.getElem_cons_zero, List.setIfInBounds_toArray, List.set_cons_zero, List.set_cons_succ]
            refine wpAnyH_take (i := 1) (v := ?_) rfl (by kernel_rfl) (by kernel_rfl) (by kernel_rfl) (fun _ _ _ h => h) (Or.inl ⟨by rfl, ?_⟩) (by assumption) ?_
            rotate_left
            · intro w9 hS9
              try dsimp only at hS9
              go_split_ands
              go_simp
              try with_reducible rfl
            try simp only [Act.put, List.getElem_toArray, List.getElem_cons_succ, List.getElem_cons_zero, List.setIfInBounds_toArray, List.set_cons_zero, List.set_cons_succ]
            refine wpAnyH_take (i := 2) (v := ?_) rfl (by kernel_rfl) (by kernel_rfl) (by kernel_rfl) (fun _ _ _ h => h) (Or.inl ⟨by rfl, ?_⟩) (by assumption) ?_
            rotate_left
            · intro w9 hS9
              try dsimp only at hS9
              go_split_ands
              go_simp
              try with_reducible rfl
            try simp only [Act.put, List.getElem_toArray, List.getElem_cons_succ, List.getElem_cons_zero, List.setIfInBounds_toArray, List.set_cons_zero, List.set_cons_succ]
            refine wpAnyH_take (i := 3) (v := ?_) rfl (by kernel_rfl) (by kernel_rfl) (by kernel_rfl) (fun _ _ _ h => h) (Or.inl ⟨by rfl, ?_⟩) (by assumption) ?_
            rotate_left
            · intro w9 hS9
              try dsimp only at hS9
              go_split_ands
              go_simp
              try with_reducible rfl
            try simp only [Act.put, List.getElem_toArray, List.getElem_cons_succ, List.getElem_cons_zero, List.setIfInBounds_toArray, List.set_cons_zero, List.set_cons_succ]
            refine wpAnyH_take (i := 4) (v := ?_) rfl (by kernel_rfl) (by kernel_rfl) (by kernel_rfl) (fun _ _ _ h => h) (Or.inl ⟨by rfl, ?_⟩) (by assumption) ?_
            rotate_left
            · intro w9 hS9
              try dsimp only at hS9
              go_split_ands
              go_simp
              try with_reducible rfl
            try simp only [Act.put, List.getElem_toArray, List.getElem_cons_succ, List.getElem_cons_zero, List.setIfInBounds_toArray, List.set_cons_zero, List.set_cons_succ]
            refine wpAnyH_take (i := 5) (v := ?_) rfl (by kernel_rfl) (by kernel_rfl) (by kernel_rfl) (fun _ _ _ h => h) (Or.inl ⟨by rfl, ?_⟩) (by assumption) ?_
            rotate_left
            · intro w9 hS9
              try dsimp only at hS9
              go_split_ands
              go_simp
              try with_reducible rfl
            try simp only [Act.put, List.getElem_toArray, List.getElem_cons_succ, List.getElem_cons_zero, List.setIfInBounds_toArray, List.set_cons_zero, List.set_cons_succ]
            refine wpAnyH_take (i := 6) (v := ?_) rfl (by kernel_rfl) (by kernel_rfl) (by kernel_rfl) (fun _ _ _ h => h) (Or.inl ⟨by rfl, ?_⟩) (by assumption) ?_
            rotate_left
            · intro w9 hS9
              try dsimp only at hS9
              go_split_ands
              go_simp
              try with_reducible rfl
            try simp only [Act.put, List.getElem_toArray, List.getElem_cons_succ, List.getElem_cons_zero, List.setIfInBounds_toArray, List.set_cons_zero, List.set_cons_succ]
            refine wpAnyH_take (i := 7) (v := ?_) rfl (by kernel_rfl) (by kernel_rfl) (by kernel_rfl) (fun _ _ _ h => h) (Or.inl ⟨by rfl, ?_⟩) (by assumption) ?_
            rotate_left
            · intro w9 hS9
              try dsimp only at hS9
              go_split_ands
              go_simp
              try with_reducible rfl
            try simp only [Act.put, List.getElem_toArray, List.getElem_cons_succ, List.getElem_cons_zero, List.setIfInBounds_toArray, List.set_cons_zero, List.set_cons_succ]
            refine wpAnyH_take (i := 8) (v := ?_) rfl (by kernel_rfl) (by kernel_rfl) (by kernel_rfl) (fun _ _ _ h => h) (Or.inl ⟨by rfl, ?_⟩) (by assumption) ?_
            rotate_left
            · intro w9 hS9
              try dsimp only at hS9
              go_split_ands
              go_simp
              try with_reducible rfl
            try simp only [Act.put, List.getElem_toArray, List.getElem_cons_succ, List.getElem_cons_zero, List.setIfInBounds_toArray, List.set_cons_zero, List.set_cons_succ]
            refine wpAnyH_ready (rs := [9]) (by kernel_rfl) (by simp) ?_
            refine AllReadyH.cons rfl (fun K hK => ?_) AllReadyH.nil
            go_simp
            have F9 : Frm [] w6 (w6.drew.alloc (.cells (arcC (.slice na a.not.length nc, a)).toArray 47)) := (Frm.refl [] w6).drew.alloc _
            have hr9 := RowAt.made w6.drew 47 (arcC (.slice na a.not.length nc, a)) (arcC (.slice na a.not.length nc, a)).toArray rfl
            simp only [arcC, List.toArray] at F9 hr9
            refine hK.out _ _ ?_ (fun hHeld => ?_)
            · exact KEEP.out [] _ F9 (by simp)
            clear hK K
            try simp only [Act.put, List.getElem_toArray, List.getElem_cons_succ, List.getElem_cons_zero, List.setIfInBounds_toArray, List.set_cons_zero, List.set_cons_succ]
            refine wpAnyH_ready (rs := [10]) (by kernel_rfl) (by simp) ?_
            refine AllReadyH.cons rfl (fun K hK => ?_) AllReadyH.nil
            refine step_app_rowL rfl (.tmp 45) (.tmp 47) 49 47 _ 6 64 rfl Tryz.underlying49 infoArc rfl (by decide) (by decide) (g + 1) l.length _ (rowC l) rfl (ownsB_frm HS.out.own F9 (by simp)) _ 1 (arcC (.slice na a.not.length nc, a)) [] rfl (rowV_cells (size := 6) hr9 rfl (Nat.le_refl _) (by decide) (by simp)) (by simp [arcC, Value.oneCell']) (l.length + 1) rfl (by have := HLL.out; have := HJ.out; omega) (by have := HS.out.bx.row.lt; simp; omega) ?_
            intro a7 c7 w7 own7 hf7 hloc7
            have hob7 : ∀ z ∈ (Value.slice v1 l.length v2).ownBlock.toList, g < z ∧ z ≠ x6 := fun z hz => ⟨(HS.out.own.lt z (Option.mem_toList.1 hz)).1, fun e => by have := (HOX.out z (Option.mem_toList.1 hz)); omega⟩
            have F7 : Frm (Value.slice v1 l.length v2).ownBlock.toList w6 w7 := (F9.mono (by simp)).trans hf7 (fun x hx => .inl hx)
            have Y7 := Lib.hid (KEEP.out _ _ F7 hob7).2.2.1
            refine hK.out _ _ ?_ (fun hHeld => ?_)
            · exact KEEP.out _ _ F7 hob7
            clear hK K
            try simp only [Act.put, List.getElem_toArray, List.getElem_cons_succ, List.getElem_cons_zero, List.setIfInBounds_toArray, List.set_cons_zero, List.set_cons_succ]
            refine wpAnyH_take (i := 11) (v := ?_) rfl (by kernel_rfl) (by kernel_rfl) (by kernel_rfl) (fun _ _ _ h => h) (Or.inl ⟨by rfl, ?_⟩) (by assumption) ?_
            rotate_left
            · intro w9 hS9
              try dsimp only at hS9
              go_split_ands
              go_simp
              try with_reducible rfl
            try simp only [Act.put, List.getElem_toArray, List.getElem_cons_succ, List.getElem_cons_zero, List.setIfInBounds_toArray, List.set_cons_zero, List.set_cons_succ]
            refine wpAnyH_take (i := 12) (v := ?_) rfl (by kernel_rfl) (by kernel_rfl) (by kernel_rfl) (fun _ _ _ h => h) (Or.inl ⟨by rfl, ?_⟩) (by assumption) ?_
            rotate_left
            · intro w9 hS9
              try dsimp only at hS9
              go_split_ands
              go_simp
              try with_reducible rfl
            try simp only [Act.put, List.getElem_toArray, List.getElem_cons_succ, List.getElem_cons_zero, List.setIfInBounds_toArray, List.set_cons_zero, List.set_cons_succ]
            refine wpAnyH_done (by kernel_rfl) ?_ _
            refine Qt.last rfl rfl ?_
            simp only [List.getElem_toArray, List.getElem_cons_succ, List.getElem_cons_zero]
            have y7 := Y7.out
            have b7 := (KEEP.out _ _ F7 hob7).2.1
            go_simp
            have HA := Lib.hid (MS.app HS.out F9 own7 hf7 hloc7 HNA.out)
            have HV7 := Lib.hid (show (Value.slice a7 (l.length + 1) c7) = .slice a7 (l.length + 1) c7 from rfl)
            clear hf7 hloc7 F7 hob7 F9 hr9 b7 y7 Y7 own7 HX HNA HS C3 BK ZK HOX HOX5 hHeld c3 hbk zbk a0 a1 a2 a3 a4 a5 nb6 ng6 nx6
            rw [HDL.out] at HA
            generalize w7.setCell ⟨b, k, none⟩ (.slice a7 (l.length + 1) c7) = w8 at *
            have hcall := refNorm_any w8 ⟨r, 2, 1, rowsM done ((l ++ [((.slice na a.not.length nc : Value), a)]).map (·.2)) rest'⟩ _ HA.out.states
            unfold machV at hcall
            have c0 := HA.out.bx.row.cell (i := 0) rfl
            have c1 := HA.out.bx.row.cell (i := 1) rfl
            have c2 := HA.out.bx.row.cell (i := 2) rfl
            have c3 := HA.out.bx.row.cell (i := 3) rfl
            go_wp2_with fail
            refine hcall.mono ?_
            rintro e9 w9 ⟨rfl, hf9⟩
            have HB9 := Lib.hid (HA.out.nil hf9)
            clear hcall hf9 HA c0 c1 c2 c3
            by_cases hnm : NormM ⟨r, 2, 1, rowsM done ((l ++ [((.slice na a.not.length nc : Value), a)]).map (·.2)) rest'⟩
            · rw [decide_eq_true hnm]
              have HNM := Lib.hid hnm
              clear hnm
              go_wp2_with fail
              go_roundg (cnt + 1 - (j + 1))
              case rel => exact ⟨j + 1, _, l ++ [(.slice na a.not.length nc, a)], rfl, by have := HJ9.out; omega, by go_num, HB9.out, by have := HLL.out; rw [List.length_append]; simp; omega, fun x hx => by rw [List.map_append, List.mem_append] at hx; rcases hx with hx | hx; exact HOK.out x hx; (obtain rfl : x = a := by simpa using hx); exact HARC.out, HNM.out⟩
              case measure => have := HQ2.out; have := HJ9.out; omega
            · rw [decide_eq_false hnm]
              clear hnm
              have hpos := HB9.out.own
              obtain ⟨g7, cp7, e7, _, hcap, hmax, _⟩ := ownsB_some hpos (by simp)
              obtain ⟨rfl, rfl⟩ : a7 = some ⟨g7, 0, none⟩ ∧ c7 = cp7 := by simpa using e7
              have hl8 : l.length ≤ 3 := by have := HLL.out; have := HJ9.out; omega
              have hc7 : (l.length : Int) + 1 ≤ (c7 : Int) := by simp at hcap; omega
              have hc8 : (l.length : Int) ≤ (c7 : Int) := by omega
              have hc9 : (c7 : Int) ≤ 9223372036854775807 := by unfold maxLen at hmax; omega
              have hb9 := HB9.out.row.cell (i := k) (v := .slice (some ⟨g7, 0, none⟩) (l.length + 1) c7) (by rw [List.getElem?_append_right (by simp [HDL.out]), List.length_map, HDL.out, Nat.sub_self]; rfl)
              have hz9 := HB9.out.row.frozen k
              have c3 := HB9.out.bx.row.cell (i := 3) rfl
              have hc0 : ¬ c7 = 0 := by simp at hcap; omega
              have hw0 : (0 : Int) ≤ (l.length : Int) := by omega
              have hw1 : IntKind.i64.wrap (l.length : Int) = (l.length : Int) := IntWalk.i64_in _ (by omega)
              clear hpos e7 hcap hmax
              go_wp2_with fail
              refine' wp_region_last (L := 17) _ (fun w' => w'.cell? ⟨g, 3, none⟩ = some (.slice (some ⟨b, 0, none⟩) n n) ∧ w'.cell? ⟨b, k, none⟩ = some (.slice (some ⟨g7, 0, none⟩) (l.length + 1) c7) ∧ w'.frozen? ⟨b, k, none⟩ = false) (by kernel_rfl) rfl rfl rfl rfl ?he (by kernel_rfl) (by kernel_rfl) ?hS ?h
              case he =>
                simp only [nopOf, List.getElem_toArray, List.getElem_cons_succ, List.getElem_cons_zero, List.setIfInBounds_toArray, List.set_cons_succ, List.set_cons_zero]
                rfl
              case hS => exact ⟨c3, hb9, hz9⟩
              intro hHeld
              refine wpAnyH_take (i := 0) (v := ?_) rfl (by kernel_rfl) (by kernel_rfl) (by kernel_rfl) (fun _ _ _ h => h) (Or.inl ⟨by rfl, ?_⟩) (by assumption) ?_
              rotate_left
              · intro w9 hS9
                try dsimp only at hS9
                go_split_ands
                go_simp
                try with_reducible rfl
              try simp only [Act.put, List.getElem_toArray, List.getElem_cons_succ, List.getElem_cons_zero, List.setIfInBounds_toArray, List.set_cons_zero, List.set_cons_succ]
              refine wpAnyH_take (i := 1) (v := ?_) rfl (by kernel_rfl) (by kernel_rfl) (by kernel_rfl) (fun _ _ _ h => h) (Or.inl ⟨by rfl, ?_⟩) (by assumption) ?_
              rotate_left
              · intro w9 hS9
                try dsimp only at hS9
                go_split_ands
                go_simp
                try with_reducible rfl
              try simp only [Act.put, List.getElem_toArray, List.getElem_cons_succ, List.getElem_cons_zero, List.setIfInBounds_toArray, List.set_cons_zero, List.set_cons_succ]
              refine wpAnyH_take (i := 2) (v := ?_) rfl (by kernel_rfl) (by kernel_rfl) (by kernel_rfl) (fun _ _ _ h => h) (Or.inl ⟨by rfl, ?_⟩) (by assumption) ?_
              rotate_left
              · intro w9 hS9
                try dsimp only at hS9
                go_split_ands
                go_simp
                try with_reducible rfl
              try simp only [Act.put, List.getElem_toArray, List.getElem_cons_succ, List.getElem_cons_zero, List.setIfInBounds_toArray, List.set_cons_zero, List.set_cons_succ]
              refine wpAnyH_take (i := 3) (v := ?_) rfl (by kernel_rfl) (by kernel_rfl) (by kernel_rfl) (fun _ _ _ h => h) (Or.inl ⟨by rfl, ?_⟩) (by assumption) ?_
              rotate_left
              · intro w9 hS9
                try dsimp only at hS9
                go_split_ands
                go_simp
                try with_reducible rfl
              try simp only [Act.put, List.getElem_toArray, List.getElem_cons_succ, List.getElem_cons_zero, List.setIfInBounds_toArray, List.set_cons_zero, List.set_cons_succ]
              refine wpAnyH_take (i := 4) (v := ?_) rfl (by kernel_rfl) (by kernel_rfl) (by kernel_rfl) (fun _ _ _ h => h) (Or.inl ⟨by rfl, ?_⟩) (by assumption) ?_
              rotate_left
              · intro w9 hS9
                try dsimp only at hS9
                go_split_ands
                go_simp
                try with_reducible rfl
              try simp only [Act.put, List.getElem_toArray, List.getElem_cons_succ, List.getElem_cons_zero, List.setIfInBounds_toArray, List.set_cons_zero, List.set_cons_succ]
              refine wpAnyH_take (i := 5) (v := ?_) rfl (by kernel_rfl) (by kernel_rfl) (by kernel_rfl) (fun _ _ _ h => h) (Or.inl ⟨by rfl, ?_⟩) (by assumption) ?_
              rotate_left
              · intro w9 hS9
                try dsimp only at hS9
                go_split_ands
                go_simp
                try with_reducible rfl
              try simp only [Act.put, List.getElem_toArray, List.getElem_cons_succ, List.getElem_cons_zero, List.setIfInBounds_toArray, List.set_cons_zero, List.set_cons_succ]
              refine wpAnyH_take (i := 6) (v := ?_) rfl (by kernel_rfl) (by kernel_rfl) (by kernel_rfl) (fun _ _ _ h => h) (Or.inl ⟨by rfl, ?_⟩) (by assumption) ?_
              rotate_left
              · intro w9 hS9
                try dsimp only at hS9
                go_split_ands
                go_simp
                try with_reducible rfl
              try simp only [Act.put, List.getElem_toArray, List.getElem_cons_succ, List.getElem_cons_zero, List.setIfInBounds_toArray, List.set_cons_zero, List.set_cons_succ]
              refine wpAnyH_take (i := 7) (v := ?_) rfl (by kernel_rfl) (by kernel_rfl) (by kernel_rfl) (fun _ _ _ h => h) (Or.inl ⟨by rfl, ?_⟩) (by assumption) ?_
              rotate_left
              · intro w9 hS9
                try dsimp only at hS9
                go_split_ands
                go_simp
                try with_reducible rfl
              try simp only [Act.put, List.getElem_toArray, List.getElem_cons_succ, List.getElem_cons_zero, List.setIfInBounds_toArray, List.set_cons_zero, List.set_cons_succ]
              refine wpAnyH_take (i := 8) (v := ?_) rfl (by kernel_rfl) (by kernel_rfl) (by kernel_rfl) (fun _ _ _ h => h) (Or.inl ⟨by rfl, ?_⟩) (by assumption) ?_
              rotate_left
              · intro w9 hS9
                try dsimp only at hS9
                go_split_ands
                go_simp
                try with_reducible rfl
              try simp only [Act.put, List.getElem_toArray, List.getElem_cons_succ, List.getElem_cons_zero, List.setIfInBounds_toArray, List.set_cons_zero, List.set_cons_succ]
              refine wpAnyH_take (i := 9) (v := ?_) rfl (by kernel_rfl) (by kernel_rfl) (by kernel_rfl) (fun _ _ _ h => h) (Or.inl ⟨by rfl, ?_⟩) (by assumption) ?_
              rotate_left
              · intro w9 hS9
                try dsimp only at hS9
                go_split_ands
                go_simp
                try with_reducible rfl
              try simp only [Act.put, List.getElem_toArray, List.getElem_cons_succ, List.getElem_cons_zero, List.setIfInBounds_toArray, List.set_cons_zero, List.set_cons_succ]
              refine wpAnyH_take (i := 10) (v := ?_) rfl (by kernel_rfl) (by kernel_rfl) (by kernel_rfl) (fun _ _ _ h => h) (Or.inl ⟨by rfl, ?_⟩) (by assumption) ?_
              rotate_left
              · intro w9 hS9
                try dsimp only at hS9
                go_split_ands
                go_simp
                try with_reducible rfl
              try simp only [Act.put, List.getElem_toArray, List.getElem_cons_succ, List.getElem_cons_zero, List.setIfInBounds_toArray, List.set_cons_zero, List.set_cons_succ]
              refine wpAnyH_take (i := 11) (v := ?_) rfl (by kernel_rfl) (by kernel_rfl) (by kernel_rfl) (fun _ _ _ h => h) (Or.inl ⟨by rfl, ?_⟩) (by assumption) ?_
              rotate_left
              · intro w9 hS9
                try dsimp only at hS9
                go_split_ands
                go_simp
                try with_reducible rfl
              try simp only [Act.put, List.getElem_toArray, List.getElem_cons_succ, List.getElem_cons_zero, List.setIfInBounds_toArray, List.set_cons_zero, List.set_cons_succ]
              refine wpAnyH_take (i := 12) (v := ?_) rfl (by kernel_rfl) (by kernel_rfl) (by kernel_rfl) (fun _ _ _ h => h) (Or.inl ⟨by rfl, ?_⟩) (by assumption) ?_
              rotate_left
              · intro w9 hS9
                try dsimp only at hS9
                go_split_ands
                go_simp
                try with_reducible rfl
              try simp only [Act.put, List.getElem_toArray, List.getElem_cons_succ, List.getElem_cons_zero, List.setIfInBounds_toArray, List.set_cons_zero, List.set_cons_succ]
              refine wpAnyH_take (i := 13) (v := ?_) rfl (by kernel_rfl) (by kernel_rfl) (by kernel_rfl) (fun _ _ _ h => h) (Or.inl ⟨by rfl, ?_⟩) (by assumption) ?_
              rotate_left
              · intro w9 hS9
                try dsimp only at hS9
                go_split_ands
                go_simp
                try with_reducible rfl
              try simp only [Act.put, List.getElem_toArray, List.getElem_cons_succ, List.getElem_cons_zero, List.setIfInBounds_toArray, List.set_cons_zero, List.set_cons_succ]
              refine wpAnyH_take (i := 14) (v := ?_) rfl (by kernel_rfl) (by kernel_rfl) (by kernel_rfl) (fun _ _ _ h => h) (Or.inl ⟨by rfl, ?_⟩) (by assumption) ?_
              rotate_left
              · intro w9 hS9
                try dsimp only at hS9
                go_split_ands
                go_simp
                try with_reducible rfl
              try simp only [Act.put, List.getElem_toArray, List.getElem_cons_succ, List.getElem_cons_zero, List.setIfInBounds_toArray, List.set_cons_zero, List.set_cons_succ]
              refine wpAnyH_take (i := 15) (v := ?_) rfl (by kernel_rfl) (by kernel_rfl) (by kernel_rfl) (fun _ _ _ h => h) (Or.inl ⟨by rfl, ?_⟩) (by assumption) ?_
              rotate_left
              · intro w9 hS9
                try dsimp only at hS9
                go_split_ands
                go_simp
                try with_reducible rfl
              try simp only [Act.put, List.getElem_toArray, List.getElem_cons_succ, List.getElem_cons_zero, List.setIfInBounds_toArray, List.set_cons_zero, List.set_cons_succ]
              refine wpAnyH_take (i := 16) (v := ?_) rfl (by kernel_rfl) (by kernel_rfl) (by kernel_rfl) (fun _ _ _ h => h) (Or.inl ⟨by rfl, ?_⟩) (by assumption) ?_
              rotate_left
              · intro w9 hS9
                try dsimp only at hS9
                go_split_ands
                go_simp
                try with_reducible rfl
              try simp only [Act.put, List.getElem_toArray, List.getElem_cons_succ, List.getElem_cons_zero, List.setIfInBounds_toArray, List.set_cons_zero, List.set_cons_succ]
              refine wpAnyH_take (i := 17) (v := ?_) rfl (by kernel_rfl) (by kernel_rfl) (by kernel_rfl) (fun _ _ _ h => h) (Or.inl ⟨by rfl, ?_⟩) (by assumption) ?_
              rotate_left
              · intro w9 hS9
                try dsimp only at hS9
                go_split_ands
                go_simp
                try with_reducible rfl
              try simp only [Act.put, List.getElem_toArray, List.getElem_cons_succ, List.getElem_cons_zero, List.setIfInBounds_toArray, List.set_cons_zero, List.set_cons_succ]
              refine wpAnyH_done (by kernel_rfl) ?_ _
              refine Qt.last rfl rfl ?_
              simp only [List.getElem_toArray, List.getElem_cons_succ, List.getElem_cons_zero]
              have hD := HB9.out.pop
              rw [HDL.out] at hD
              have hP := Lib.hid (hD.nil (Frm.refl [] (w9.setCell ⟨b, k, none⟩ (.slice (some ⟨g7, 0, none⟩) l.length c7))).drew)
              go_simp
              generalize (w9.setCell ⟨b, k, none⟩ (.slice (some ⟨g7, 0, none⟩) l.length c7)).drew = W9 at *
              clear hb9 hz9 c3 hHeld hD
              have HL3 := Lib.hid hl8
              clear hc0 hw0 hw1 hc7 hc8 hc9 hl8
              go_wp2_with fail
              go_roundg (cnt + 1 - (j + 1))
              case rel => exact ⟨j + 1, _, l, rfl, by have := HJ9.out; omega, by go_num, hP.out, by have := HLL.out; omega, HOK.out, HNX.out⟩
              case measure => have := HQ2.out; have := HJ9.out; omega
          · skip
            have i6 : ¬ (0 : Int) < 1 + (cnt : Int) - j := by omega
            have hjc : j = cnt + 1 := by have := HJ.out; omega
            have HMC := Lib.hid hS.close
            have HJC := Lib.hid hjc
            clear hS hjc hj9 hj
            go_wp2_with fail
            go_roundg (n - (k + 1))
            case rel =>
              refine ⟨k + 1, rest', done ++ [(v, l.map (·.2))], rfl, by omega, by go_num, by have := HR'.out; have := HREST.out; omega, by have := HDL.out; simp; omega, HMC.out.next (HMC.out.bx.tape.mono (by have := HJC.out; omega)) (Frm.refl _ _), fun row hrow => ?_, ?_⟩
              · rw [List.map_append, List.mem_append] at hrow
                rcases hrow with hrow | hrow
                · exact HGOOD.out row hrow
                · obtain rfl : row = l.map (·.2) := by simpa using hrow
                  have h8 := HLL.out
                  have h7 := HJC.out
                  exact ⟨by rw [List.length_map]; omega, HOK.out⟩
              · rw [rowsM_close]
                exact HNX.out
            case measure => have := HQ.out; omega
      · skip
        have i5 : ¬ (k : Int) < (n : Int) := by omega
        have hkn : rest = 0 := by have := HREST.out; omega
        have HD0 : Hid (DrawnM true ⟨r, 2, 1, done.map (·.2)⟩ ∧ (done.map (·.2)).length = n) := Lib.hid (by
          have hl : (done.map (·.2)).length = n := by rw [List.length_map, HDL.out]; omega
          have hnm := HNORM.out
          rw [hkn] at hnm
          rw [List.replicate_zero, List.append_nil] at hnm
          exact ⟨⟨by simp; omega, rfl, rfl, by rw [show (RM.states ⟨r, 2, 1, done.map (·.2)⟩) = done.map (·.2) from rfl, hl]; omega, valid_mk hr hn1 hn3 hl (fun row hrow => HGOOD.out row hrow), fun _ => hnm, (fun e => by cases e), fun row hrow => (HGOOD.out row hrow).1⟩, hl⟩)
        have HST : Hid (StatesAt wr [tb, w.heap.size] (.slice (some ⟨b, 0, none⟩) n n) (done.map (·.2))) := Lib.hid (by
          have := hM.states
          rw [hkn, List.replicate_zero, List.append_nil] at this
          exact this)
        have HBX := Lib.hid hM.bx
        have HRES := Lib.hid hM.res
        have ho1 := hM.o1
        have ho2 := hM.o2
        have c0 := HBX.out.row.cell (i := 0) rfl
        have c1 := HBX.out.row.cell (i := 1) rfl
        have c2 := HBX.out.row.cell (i := 2) rfl
        have d0 := HRES.out.cell (i := 0) rfl
        have d1 := HRES.out.cell (i := 1) rfl
        have d2 := HRES.out.cell (i := 2) rfl
        have d3 := HRES.out.cell (i := 3) rfl
        have y0 := HRES.out.frozen 0
        have y1 := HRES.out.frozen 1
        have y2 := HRES.out.frozen 2
        have y3 := HRES.out.frozen 3
        have hwg : ¬ g = w.heap.size := by omega
        have hgw : ¬ w.heap.size = g := by omega
        clear hkn hM
        go_wp2_with fail
        have ho : RowAt ((((wr.setCell ⟨w.heap.size, 0, none⟩ (.int .i64 r)).setCell ⟨w.heap.size, 1, none⟩ (.int .i64 2)).setCell ⟨w.heap.size, 2, none⟩ (.int .i64 1)).setCell ⟨w.heap.size, 3, none⟩ (.slice (some ⟨b, 0, none⟩) n n)) w.heap.size 30 [.int .i64 r, .int .i64 2, .int .i64 1, .slice (some ⟨b, 0, none⟩) n n] := (((HRES.out.setCell 0 _).setCell 1 _).setCell 2 _).setCell 3 _
        have hF : Frm [w.heap.size] wr ((((wr.setCell ⟨w.heap.size, 0, none⟩ (.int .i64 r)).setCell ⟨w.heap.size, 1, none⟩ (.int .i64 2)).setCell ⟨w.heap.size, 2, none⟩ (.int .i64 1)).setCell ⟨w.heap.size, 3, none⟩ (.slice (some ⟨b, 0, none⟩) n n)) := ((((Frm.refl _ wr).setCell (.inl (by simp)) _).setCell (.inl (by simp)) _).setCell (.inl (by simp)) _).setCell (.inl (by simp)) _
        generalize ((((wr.setCell ⟨w.heap.size, 0, none⟩ (.int .i64 r)).setCell ⟨w.heap.size, 1, none⟩ (.int .i64 2)).setCell ⟨w.heap.size, 2, none⟩ (.int .i64 1)).setCell ⟨w.heap.size, 3, none⟩ (.slice (some ⟨b, 0, none⟩) n n)) = W9 at *
        have e0 := ho.cell (i := 0) rfl
        have e1 := ho.cell (i := 1) rfl
        have e2 := ho.cell (i := 2) rfl
        have e3 := ho.cell (i := 3) rfl
        refine bodyPost_ret (v := machV ⟨r, 2, 1, done.map (·.2)⟩ (.slice (some ⟨b, 0, none⟩) n n)) (by simp [results, Tryz.results6, go_sem, e0, e1, e2, e3, machV]) rfl ?_
        have h1 := HBX.out.lt
        have h2 := HBX.out.le
        exact ⟨_, _, rfl, HST.out.step hF (fun x hx => .inl (by simp at hx; simp [hx])) (fun x hx => .inl (by simp at hx; simp [hx])), HD0.out.1, (HBX.out.tape.frm hF (by simp; omega) (by simp; omega)).mono (by omega), HBX.out.frm.trans hF (fun x hx => .inr (by simp at hx; omega))⟩
end Go.Proofs.YtdknbgejhhoaiaaGreat.Ind
