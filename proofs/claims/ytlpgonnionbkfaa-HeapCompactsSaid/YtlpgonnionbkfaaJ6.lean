/- Contract of walk of the law. -/
import Derived.Test.YtlpgonnionbkfaaHQ
import Derived.Test.YtlpgonnionbkfaaHO
namespace Go.Proofs.Ytlpgonnionbkfaa
open Go.RowKit

/-- A path of bytes. -/
def BytesAt (w : World) (a : Option Addr) (ps : List Nat) : Prop := ∀ i x : Nat, ps[i]? = some x → ∃ b o : Nat, a = some ⟨b, o, none⟩ ∧ w.cell? ⟨b, o + i, none⟩ = some (.int .u8 (x : Int)) ∧ x ≤ 255 ∧ b < w.heap.size
theorem BytesAt.frm {w w' : World} {a : Option Addr} {ps : List Nat} (h : BytesAt w a ps) (hf : Frm [] w w') : BytesAt w' a ps := fun i x hx => by
  obtain ⟨b, o, e, h1, h2, h3⟩ := h i x hx
  have := hf.size
  exact ⟨b, o, e, hf.cell h1 (by simp), h2, by omega⟩
theorem new4 (w : World) (a b c d : Int) : IntsAt (w.alloc (.cells #[.int .i64 a, .int .i64 b, .int .i64 c, .int .i64 d] 3)) (.slice (some ⟨w.heap.size, 0, none⟩) 4 4) [a, b, c, d] := by
  have h : (w.alloc (.cells #[.int .i64 a, .int .i64 b, .int .i64 c, .int .i64 d] 3)).ownsRow 0 3 1 (.slice (some ⟨w.heap.size, 0, none⟩) 4 4) 4 (ints [a, b, c, d]) := owns_made_full w 3 1 (ints [a, b, c, d]) 4 rfl (by decide)
  exact ints_of_owns (xs := [a, b, c, d]) h
theorem new4' (w : World) (a b c d : Int) (g : Nat) (hg : g = w.heap.size) : IntsAt (w.alloc (.cells #[.int .i64 a, .int .i64 b, .int .i64 c, .int .i64 d] 3)) (.slice (some ⟨g, 0, none⟩) 4 4) [a, b, c, d] := by
  subst hg
  exact new4 w a b c d
theorem readM_two {cs : List HC} (h : HOk cs) (r : Int) : (readM cs r).1.refs.length ≤ 2 := by
  rw [readM]
  split
  · rename_i hr
    obtain ⟨k, rfl, hk⟩ := inL_nat hr
    rw [Int.toNat_natCast]
    exact h.few (h.tgt_lt hk)
  · exact Nat.zero_le _

set_option linter.unusedSimpArgs false in
set_option maxRecDepth 100000 in
set_option maxHeartbeats 4000000 in
theorem walk_any {w : World} {hb : Nat} {fp : List Nat} {most : Int} {cs : List HC} (h : HW 60 w hb fp most cs) (ho : HOk cs) (r : Int) (a : Option Addr) (cap : Nat) (ps : List Nat) (hp : BytesAt w a ps) (hlc : ps.length ≤ cap) (hcm : cap ≤ maxLen) :
    Calls Try.prog 22 #[.pointer (some ⟨hb, 0, none⟩), .int .i64 r, .slice a ps.length cap] w fun e w' => RchEnd w.heap.size (walkM cs r (ps.take 30)) w' e ∧ Frm [] w w' := by
  have HH := Lib.hid h
  have HO := Lib.hid ho
  have HP := Lib.hid hp
  obtain ⟨R, hR⟩ : ∃ R, R = walkM cs r (ps.take 30) := ⟨_, rfl⟩
  have HR := Lib.hid hR
  obtain ⟨n, hn⟩ : ∃ n, n = ps.length := ⟨_, rfl⟩
  have HN := Lib.hid hn
  rw [← hR, ← hn]
  rw [← hn] at hlc
  have i0 : (n : Int) ≤ (cap : Int) := by omega
  have i1 : (cap : Int) ≤ 9223372036854775807 := by unfold maxLen at hcm; omega
  clear h ho hp hR hn hcm hlc
  go_enter Try.func22, Try.ntmps22
  go_wp2_with fail
  go_loopg [1, 7, 8] 30 (fun q s1 s7 s8 wr => ∃ (i N : Nat) (r' : Int) (out : List Int) (a7 : Option Addr) (c7 : Nat), q = 30 - i ∧ i ≤ 30 ∧ s8 = .int .i64 (i : Int) ∧ s1 = .int .i64 r' ∧ s7 = .slice a7 N c7 ∧ out.length = N ∧ N ≤ 4 * i ∧ wr.ownsRow w.heap.size 3 1 (.slice a7 N c7) N (ints out) ∧ R = out ++ walkM cs r' ((ps.take 30).drop i) ∧ Frm [] w wr)
  case atStart => exact ⟨0, 0, r, [], none, 0, rfl, by omega, rfl, rfl, rfl, rfl, by omega, World.ownsRow_nil _ _ _ _, by rw [HR.out]; rfl, Frm.refl _ _⟩
  case round =>
    obtain ⟨i, N, r', out, a7, c7, rfl, hi, rfl, rfl, rfl, hN, hNi, ho7, hRR, hF⟩ := hrel
    have HNN := Lib.hid hN
    have HO7 := Lib.hid ho7
    have HRR := Lib.hid hRR
    have HF := Lib.hid hF
    have hszr := hF.size
    have i4 : (0 : Int) ≤ (i : Int) := by omega
    have i30 : (i : Int) ≤ 30 := by omega
    clear hN ho7 hRR hF
    by_cases hil : i < n
    · by_cases hi3 : i < 30
      · have i5 : (i : Int) < (n : Int) := by omega
        have i6 : (i : Int) < 30 := by omega
        obtain ⟨p, hp⟩ : ∃ p, ps[i]? = some p := ⟨_, List.getElem?_eq_getElem (by rw [← HN.out]; exact hil)⟩
        obtain ⟨b2, o2, rfl, qx, hp255, hb2⟩ := HP.out i p hp
        have hdr : (ps.take 30).drop i = p :: (ps.take 30).drop (i + 1) := by
          have h9 : (ps.take 30)[i]? = some p := by rw [List.getElem?_take_of_lt hi3]; exact hp
          obtain ⟨h8, h7⟩ := List.getElem?_eq_some_iff.1 h9
          rw [List.drop_eq_getElem_cons h8, h7]
        have hrd := read_m (HH.out.frm HF.out (by simp)) HO.out r'
        have htwo := readM_two HO.out r'
        have hRR := HRR.out
        rw [hdr, walkM] at hRR
        obtain ⟨⟨⟨kd, nm, rf⟩, pl, er⟩, hc⟩ : ∃ x, readM cs r' = x := ⟨_, rfl⟩
        rw [hc] at hrd htwo hRR
        simp only at hrd htwo hRR
        have HRS := Lib.hid hRR
        have HQX := Lib.hid qx
        obtain ⟨L, hL⟩ : ∃ L, L = rf.length := ⟨_, rfl⟩
        rw [← hL] at hrd htwo HRS
        have HLL := Lib.hid hL
        clear hp hdr hRR hc HRR qx hL
        go_wp2_with fail
        refine hrd.mono ?_
        rintro e3 w3 ⟨a3, c3, rfl, hi3', hb3, hf3⟩
        have HB3 := Lib.hid hb3
        have f4 : Frm [] w3 (w3.alloc (.cells #[.int .i64 kd, .int .i64 nm, .slice a3 L c3] 32)) := (Frm.refl [] w3).alloc _
        have r4 := RowAt.made w3 32 [.int .i64 kd, .int .i64 nm, .slice a3 L c3] #[.int .i64 kd, .int .i64 nm, .slice a3 L c3] rfl
        have HI3 := Lib.hid (hi3'.frm f4 (by simp))
        have HF4 := Lib.hid (hf3.trans f4 (by simp))
        have R4 := Lib.hid r4
        have k0 := r4.cell (i := 0) rfl
        have k1 := r4.cell (i := 1) rfl
        have k2 := r4.cell (i := 2) rfl
        have HO4 := Lib.hid (ownsB_frm HO7.out (hf3.trans f4 (by simp)) (by simp))
        have hsz3 := hf3.size
        have hsz4 := f4.size
        have HF3 := Lib.hid (HF.out.trans (hf3.trans f4 (by simp)) (by simp))
        clear hrd hi3' hb3 hf3 f4 r4
        have hsz9 : w3.heap.size ≠ (w3.alloc (.cells #[.int .i64 kd, .int .i64 nm, .slice a3 L c3] 32)).heap.size := by simp
        go_wp2_with (first | (at_builtin; refine app_ints rfl (.tmp 29) (.tmp 38) rfl w.heap.size N (N + 4) (.slice a7 N c7) out rfl (HO4.out.alloc _) (.slice (some ⟨_, 0, none⟩) 4 4) [kd, nm, (L : Int), er] rfl (new4' _ _ _ _ _ _ (by simp)) rfl (by omega) (by simp; omega) ?_) | (at_builtin; fail))
        intro a10 c10 w10 hown10 hf10 hloc10
        have f5 : Frm [] (w3.alloc (.cells #[.int .i64 kd, .int .i64 nm, .slice a3 L c3] 32)) ((w3.alloc (.cells #[.int .i64 kd, .int .i64 nm, .slice a3 L c3] 32)).alloc (.cells #[.int .i64 kd, .int .i64 nm, .int .i64 L, .int .i64 er] 3)) := (Frm.refl [] _).alloc _
        have nb7 : ∀ k, (Value.slice a7 N c7).ownBlock = some k → k < wr.heap.size := fun k hk => (HO7.out.lt k hk).2
        have hr10 := (R4.out.frm f5 (by simp)).frm hf10 (fun hm => by have := nb7 w3.heap.size (by simpa using hm); omega)
        have hi10 := (HI3.out.frm f5 (by simp)).frm hf10 (fun k hk hm => by
          have h1 := HB3.out k hk
          have h2 := nb7 k (by simpa using hm)
          omega)
        have FT : Frm [] w w10 := (HF3.out.trans f5 (by simp)).trans hf10 (fun x hx => .inr (HO7.out.lt x (by simpa using hx)).1)
        have HFT := Lib.hid FT
        have j2 := hr10.cell (i := 2) rfl
        have HI10 := Lib.hid hi10
        have HO10 := Lib.hid hown10
        have qx1 := FT.cell HQX.out (by simp)
        have hlen10 : (out ++ [kd, nm, (L : Int), er]).length = N + 4 := by rw [List.length_append, HNN.out]; rfl
        have HL10 := Lib.hid hlen10
        clear k0 k1 k2 hown10 hf10 hloc10 f5 hr10 hi10 FT nb7 HO4 HI3 R4 HF4 hlen10
        obtain ⟨x9, hx9⟩ : ∃ x, x = w3.heap.size := ⟨_, rfl⟩
        rw [← hx9] at j2 ⊢
        clear hx9
        by_cases hL0 : L = 0
        · have hb0 : ((L : Int) == 0) = true := by simp [hL0]
          have HRF : Hid (R = out ++ [kd, nm, (L : Int), er]) := Lib.hid (by
            have h9 := HRS.out
            rw [if_pos hL0] at h9
            exact h9)
          clear hL0
          go_wp2_with fail
          go_ret
          have hrl : R.length = N + 4 := by rw [HRF.out]; exact HL10.out
          refine ⟨⟨a10, c10, ?_, ?_, ?_⟩, HFT.out⟩
          · rw [hrl]; rfl
          · have h9 := HO10.out
            rw [← HRF.out, ← hrl] at h9
            rw [hrl] at h9 ⊢
            rw [← hrl] at h9 ⊢
            exact ints_of_owns h9
          · rw [hrl]
            exact fun k hk => (HO10.out.lt k hk).1
        · have hb0 : ((L : Int) == 0) = false := by simp; omega
          obtain ⟨m, hm⟩ : ∃ m, m = p % L := ⟨_, rfl⟩
          have hml : m < L := by rw [hm]; exact Nat.mod_lt _ (by omega)
          obtain ⟨x, hx⟩ : ∃ x, rf[m]? = some x := ⟨_, List.getElem?_eq_getElem (by rw [← HLL.out]; exact hml)⟩
          have hmod : (p : Int).tmod (L : Int) = (m : Int) := by rw [hm]; exact (Int.ofNat_tmod p L).symm
          have HRF : Hid (R = (out ++ [kd, nm, (L : Int), er]) ++ walkM cs x ((ps.take 30).drop (i + 1))) := Lib.hid (by
            have h9 := HRS.out
            rw [if_neg hL0, ← hm, List.getD_eq_getElem?_getD, hx] at h9
            rw [h9]
            simp)
          have hi11 := HI10.out
          obtain ⟨b4, o4, rfl, q4, hnn, hc4, hm4⟩ := hi11.at hx
          have i7 : (L : Int) ≤ (c3 : Int) := by omega
          have i8 : (c3 : Int) ≤ 9223372036854775807 := by unfold maxLen at hm4; omega
          have i9 : (m : Int) < (L : Int) := by omega
          have i10 : (0 : Int) ≤ (m : Int) := by omega
          have i11 : (p : Int) ≤ 255 := by omega
          have i12 : (0 : Int) ≤ (p : Int) := by omega
          have i13 : (L : Int) ≤ 2 := by omega
          have i14 : (0 : Int) < (L : Int) := by omega
          clear hL0 hm hx hi11 hnn hc4 hm4
          go_wp2_with fail
          go_quiet (fail)
          go_wp2_with fail
          go_roundg (30 - (i + 1))
          case rel => exact ⟨i + 1, N + 4, x, out ++ [kd, nm, (L : Int), er], a10, c10, rfl, by omega, by go_num, rfl, rfl, HL10.out, by omega, HO10.out, HRF.out, HFT.out.drewN _⟩
          case measure => omega
      · have i5 : (i : Int) < (n : Int) := by omega
        have i6 : ¬ (i : Int) < 30 := by omega
        have HRF : Hid (R = out) := Lib.hid (by
          have h9 := HRR.out
          rw [List.drop_eq_nil_of_le (by rw [List.length_take]; omega), walkM, List.append_nil] at h9
          exact h9)
        go_wp2_with fail
        go_ret
        have hrl : R.length = N := by rw [HRF.out]; exact HNN.out
        refine ⟨⟨a7, c7, ?_, ?_, ?_⟩, HF.out⟩
        · rw [hrl]; rfl
        · have h9 := HO7.out
          rw [← HRF.out, ← hrl] at h9
          exact ints_of_owns h9
        · rw [hrl]
          exact fun k hk => (HO7.out.lt k hk).1
    · have i5 : ¬ (i : Int) < (n : Int) := by omega
      have HRF : Hid (R = out) := Lib.hid (by
        have h9 := HRR.out
        have h8 := HN.out
        rw [List.drop_eq_nil_of_le (by rw [List.length_take]; omega), walkM, List.append_nil] at h9
        exact h9)
      go_wp2_with fail
      go_ret
      have hrl : R.length = N := by rw [HRF.out]; exact HNN.out
      refine ⟨⟨a7, c7, ?_, ?_, ?_⟩, HF.out⟩
      · rw [hrl]; rfl
      · have h9 := HO7.out
        rw [← HRF.out, ← hrl] at h9
        exact ints_of_owns h9
      · rw [hrl]
        exact fun k hk => (HO7.out.lt k hk).1

end Go.Proofs.Ytlpgonnionbkfaa
