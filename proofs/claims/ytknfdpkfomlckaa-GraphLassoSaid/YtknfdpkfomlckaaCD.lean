/- Contract of thin of the reference. -/
import Derived.Test.YtknfdpkfomlckaaCC
namespace Go.Proofs.Ytknfdpkfomlckaa
open Go.RowKit

theorem thin_take {X : List (List Nat)} {i : Nat} {q : List Nat} (h : X[i]? = some q) : thinL (X.take (i + 1)) = thinStep (thinL (X.take i)) q := by
  rw [List.take_add_one, h, Option.toList_some, thinL, List.foldl_append]
  rfl
theorem LvOk.take {n N : Nat} {X : List (List Nat)} (h : LvOk n N X) (i : Nat) : LvOk n N (X.take i) :=
  ⟨fun q hq => h.len q (List.mem_of_mem_take hq), h.pos, fun q hq => h.rng q (List.mem_of_mem_take hq)⟩
theorem news_one {w : World} {g : Nat} {v : Value} (h : w.cell? ⟨g, 0, none⟩ = some v) : ∀ (j : Nat) (u : Value), [v][j]? = some u → w.cell? ((⟨g, 0, none⟩ : Addr).add j) = some u := by
  intro j u hj
  cases j with
  | zero => simp at hj; rw [← hj, Addr.add_lit]; exact h
  | succ j => simp at hj
def RThinEnd (B : Nat) (X : List (List Nat)) (w' : World) (e : Ending) : Prop :=
  ∃ (a : Option Addr) (c : Nat) (xs : List Value), e = .returned (.slice a (thinL X).length c) ∧ Ps B w' a c (thinL X) xs

set_option linter.unusedSimpArgs false in
set_option maxRecDepth 100000 in
set_option maxHeartbeats 4000000 in
theorem rthin_any (pa : Option Addr) (pc : Nat) (X : List (List Nat)) (xs : List Value) (N M n : Nat) (w : World) (hp : Ps 0 w pa pc X xs) (hok : LvOk n N X) (hNM : N = M + 1) (hNb : N ≤ 1000000) (hn : n ≤ 16384) (hXb : X.length ≤ 100000000000) :
    Calls Try.prog 73 #[.slice pa X.length pc] w fun e w' => RThinEnd w.heap.size X w' e ∧ Frm [] w w' := by
  have HP0 := Lib.hid hp
  have HOK := Lib.hid hok
  have HNM := Lib.hid hNM
  have hN0 := hok.pos
  have iX : (X.length : Int) ≤ 100000000000 := by omega
  have iN : (N : Int) ≤ 1000000 := by omega
  have iM : (0 : Int) ≤ (M : Int) := by omega
  have iMN : (M : Int) < (N : Int) := by omega
  have iwr : IntKind.i64.wrap ((N : Int) - 1) = (M : Int) := by
    have : (N : Int) - 1 = (M : Int) := by omega
    rw [this]
    exact IntWalk.i64_in _ (by omega)
  clear hp hok hNM
  go_enter Try.func73, Try.ntmps73
  go_wp2_with fail
  go_loopg [3, 4, 5] X.length (fun q s3 s4 s5 wr => ∃ (i : Nat) (Y : List (List Nat)) (a3 : Option Addr) (c3 : Nat) (ys : List Value), q = X.length - i ∧ i ≤ X.length ∧ s4 = .int .i64 (i : Int) ∧ s3 = .slice a3 Y.length c3 ∧ Hid (Y = thinL (X.take i)) ∧ Ps w.heap.size wr a3 c3 Y ys ∧ Frm [] w wr)
  case atStart => exact ⟨0, [], none, 0, [], rfl, Nat.zero_le _, rfl, rfl, Lib.hid rfl, Ps.nil _ _, Frm.refl _ _⟩
  case round =>
    obtain ⟨i, Y, a3, c3, ys, rfl, hi, rfl, rfl, HY, hps, hF⟩ := hrel
    have HPS := Lib.hid hps
    have HF := Lib.hid hF
    have hszr := hF.size
    have i4 : (0 : Int) ≤ (i : Int) := by omega
    have hyok : LvOk n N Y := by rw [HY.out]; exact (HOK.out.take i).thin
    have HYOK := Lib.hid hyok
    have hYl : Y.length ≤ n := by rw [HY.out]; exact thin_few (HOK.out.take i)
    have iY : (Y.length : Int) ≤ 16384 := by omega
    clear hps hF hyok
    by_cases hil : i < X.length
    · have i5 : (i : Int) < (X.length : Int) := by omega
      obtain ⟨q, hq⟩ : ∃ q, X[i]? = some q := ⟨_, List.getElem?_eq_getElem hil⟩
      have hqm := List.mem_of_getElem? hq
      have hql := HOK.out.len q hqm
      obtain ⟨s, hs⟩ : ∃ s, lastN q = s := ⟨_, rfl⟩
      obtain ⟨gp, gq, cq, rfl, hcp, hoq, hcq⟩ := HP0.out.at hq (by omega)
      have hM : N - 1 = M := by have := HNM.out; omega
      rw [hql, hs, hM] at hcq
      rw [hql] at hcp hoq
      have CP0 := Lib.hid hcp
      have CQ0 := Lib.hid hcq
      have HOQ0 := Lib.hid hoq
      have HQX := Lib.hid hq
      have HS := Lib.hid hs
      have HLEN := Lib.hid hql
      clear hq hqm hql hcp hoq hcq hM hs
      go_wp2_with fail
      go_loopg [5, 6] Y.length (fun qq s5 s6 wr' => ∃ (k : Nat) (b : Bool), qq = Y.length - k ∧ k ≤ Y.length ∧ s6 = .int .i64 (k : Int) ∧ s5 = .bool b ∧ Hid (b = (Y.take k).any fun r => lastN r == s) ∧ Frm [] w wr' ∧ Ps w.heap.size wr' a3 c3 Y ys)
      case atStart => exact ⟨0, false, rfl, Nat.zero_le _, rfl, rfl, Lib.hid (by simp), HF.out, HPS.out⟩
      case round =>
        clear HPS HF hszr
        obtain ⟨k, b, rfl, hk, rfl, rfl, HBK, hF, hps⟩ := hrel
        have HF7 := Lib.hid hF
        have HPS := Lib.hid hps
        have hszr := hF.size
        have i6 : (0 : Int) ≤ (k : Int) := by omega
        have cp := hF.cell CP0.out (by simp)
        have cqm := hF.cell CQ0.out (by simp)
        clear hF hps
        by_cases hkl : k < Y.length
        · have i7 : (k : Int) < (Y.length : Int) := by omega
          obtain ⟨r, hr⟩ : ∃ r, Y[k]? = some r := ⟨_, List.getElem?_eq_getElem hkl⟩
          have hrl := HYOK.out.len r (List.mem_of_getElem? hr)
          obtain ⟨u, hu⟩ : ∃ u, lastN r = u := ⟨_, rfl⟩
          obtain ⟨gp2, gq2, cq2, rfl, hcp2, hoq2, hcq2⟩ := HPS.out.at hr (by omega)
          have hM : N - 1 = M := by have := HNM.out; omega
          rw [hrl, hu, hM] at hcq2
          rw [hrl] at hcp2
          have HB2 : Hid ((Y.take (k + 1)).any (fun r => lastN r == s) = (b || (u == s))) := Lib.hid (by
            rw [List.take_add_one, hr, Option.toList_some, List.any_append, ← HBK.out]
            simp [hu])
          clear hr hrl hoq2 hM hu
          cases b with
          | true =>
            go_wp2_with fail
            go_quiet (fail)
            go_wp2_with fail
            go_roundg (Y.length - (k + 1))
            case rel => exact ⟨k + 1, true, rfl, hkl, by go_num, rfl, Lib.hid (by rw [HB2.out]; rfl), HF7.out.drewN _, HPS.out.frm ((Frm.refl [] wr).drewN _)⟩
            case measure => omega
          | false =>
            by_cases hus : u = s
            · subst hus
              go_wp2_with fail
              go_quiet (fail)
              go_wp2_with fail
              go_roundg (Y.length - (k + 1))
              case rel => exact ⟨k + 1, true, rfl, hkl, by go_num, rfl, Lib.hid (by rw [HB2.out]; simp), HF7.out.drewN _, HPS.out.frm ((Frm.refl [] wr).drewN _)⟩
              case measure => omega
            · have hub : ((u : Int) == (s : Int)) = false := by simp only [beq_eq_false_iff_ne, ne_eq]; omega
              go_wp2_with fail
              go_quiet (fail)
              go_wp2_with fail
              go_roundg (Y.length - (k + 1))
              case rel => exact ⟨k + 1, false, rfl, hkl, by go_num, rfl, Lib.hid (by rw [HB2.out]; simpa using hus), HF7.out.drewN _, HPS.out.frm ((Frm.refl [] wr).drewN _)⟩
              case measure => omega
        · have i7 : ¬ (k : Int) < (Y.length : Int) := by omega
          have hbk := HBK.out
          rw [List.take_of_length_le (show Y.length ≤ k by omega)] at hbk
          have HTH := Lib.hid (thin_take HQX.out)
          have HBY := Lib.hid hbk
          clear hbk
          cases b with
          | true =>
            have HY2 : Hid (Y = thinL (X.take (i + 1))) := Lib.hid (by
              rw [HTH.out, ← HY.out, thinStep, HS.out, if_pos HBY.out.symm])
            go_wp2_with fail
            go_roundg (X.length - (i + 1))
            case rel => exact ⟨i + 1, Y, a3, c3, ys, rfl, hil, by go_num, rfl, HY2, HPS.out, HF7.out⟩
            case measure => omega
          | false =>
            have HY2 : Hid (Y ++ [q] = thinL (X.take (i + 1))) := Lib.hid (by
              rw [HTH.out, ← HY.out, thinStep, HS.out, if_neg (by rw [← HBY.out]; simp)])
            have HPA := Lib.hid (HPS.out.frm ((Frm.refl [] wr).alloc (.cells #[.slice (some ⟨gq, 0, none⟩) N cq] 22)))
            have HOQ := Lib.hid ((ownsB_frm HOQ0.out HF7.out (by simp)).alloc (.cells #[.slice (some ⟨gq, 0, none⟩) N cq] 22))
            have CA : Hid _ := Lib.hid ((RowAt.made wr 22 [.slice (some ⟨gq, 0, none⟩) N cq] #[.slice (some ⟨gq, 0, none⟩) N cq] rfl).cell (i := 0) rfl)
            go_wp2_with (first | (at_builtin; refine wpl_app_at rfl (.tmp 49) (.tmp 54) 65 22 (.slice none 0 0) 1 24 Try.underlying65 infoInts rfl (by decide) rfl w.heap.size Y.length (Y.length + 1) (.slice a3 Y.length c3) ys rfl HPA.out.out ⟨wr.heap.size, 0, none⟩ 1 [.slice (some ⟨gq, 0, none⟩) N cq] rfl rfl (news_one CA.out) (by intro u hu; rw [List.mem_singleton] at hu; rw [hu]; rfl) rfl (by omega) (by decide) (Nat.le_trans hszr ((Frm.refl [] wr).alloc _).size) ?_) | (at_builtin; fail))
            intro g9 c9 w9 hown9 hf9 _
            have hp9 : Ps w.heap.size w9 (some ⟨g9, 0, none⟩) c9 (Y ++ [q]) (ys ++ [.slice (some ⟨gq, 0, none⟩) q.length cq]) := HPA.out.push (by rw [HLEN.out]; exact HOQ.out) (by rw [HLEN.out]; exact hown9) hf9
            have HP9 := Lib.hid hp9
            have HF9 := Lib.hid ((HF7.out.alloc (.cells #[.slice (some ⟨gq, 0, none⟩) N cq] 22)).trans hf9 (fun x hx => .inr (own_ge HPS.out.out x hx)))
            clear hp9 hown9 hf9
            go_wp2_with fail
            go_roundg (X.length - (i + 1))
            case rel => exact ⟨i + 1, Y ++ [q], _, c9, _, rfl, hil, by go_num, by rw [List.length_append]; rfl, HY2, HP9.out, HF9.out⟩
            case measure => omega
    · have i5 : ¬ (i : Int) < (X.length : Int) := by omega
      have HE : Hid (RThinEnd w.heap.size X wr (.returned (.slice a3 Y.length c3))) := Lib.hid (by
        have h1 := HY.out
        rw [List.take_of_length_le (by omega)] at h1
        subst h1
        exact ⟨a3, c3, ys, rfl, HPS.out⟩)
      go_wp2_with fail
      go_ret
      exact ⟨HE.out, HF.out⟩

end Go.Proofs.Ytknfdpkfomlckaa
