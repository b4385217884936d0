/- DiskFiles of the law answers true. -/
import Derived.Test.YtkebdgbjgbcneaaDU
namespace Go.Proofs.Ytkebdgbjgbcneaa
open Go.RowKit Go.Maps Go.Shelf

def nmF (i : Nat) : Nm := [102, UInt8.ofNat (48 + i / 10), UInt8.ofNat (48 + i % 10)]
def fmF : Nat → DM
  | 0 => emptyM 1000
  | i + 1 => (appendM (fmF i) (nmF i) []).2
def chkF : Nat → Nat → DM → Bool
  | 0, _, _ => true
  | n + 1, i, m => (appendM m (nmF i) []).1 == 0 && chkF n (i + 1) (appendM m (nmF i) []).2
theorem chkF_at : ∀ (n i j : Nat), chkF n i (fmF i) = true → i ≤ j → j < i + n → (appendM (fmF j) (nmF j) []).1 = 0
  | 0, i, j, _, h1, h2 => by omega
  | n + 1, i, j, h, h1, h2 => by
    rw [chkF, Bool.and_eq_true] at h
    rcases Nat.eq_or_lt_of_le h1 with rfl | h3
    · exact by simpa using h.1
    · exact chkF_at n (i + 1) j h.2 h3 (by omega)
theorem chkF_all : chkF 64 0 (emptyM 1000) = true := by decide +kernel
theorem fmF_ok {j : Nat} (h : j < 64) : (appendM (fmF j) (nmF j) []).1 = 0 := chkF_at 64 0 j chkF_all (Nat.zero_le _) (by omega)
def yf1 : DM := (appendM (fmF 64) [103] []).2
def yf2 : DM := (appendM yf1 [102, 48, 48] [120]).2
def yf3 : DM := (deleteM yf2 [102, 48, 49]).2
def yf4 : DM := (appendM yf3 [103] []).2
theorem yf1_ok : (appendM (fmF 64) [103] []).1 = 10 := by decide +kernel
theorem yf2_ok : (appendM yf1 [102, 48, 48] [120]).1 = 0 := by decide +kernel
theorem yf3_ok : (deleteM yf2 [102, 48, 49]).1 = 0 := by decide +kernel
theorem yf4_ok : (appendM yf3 [103] []).1 = 0 := by decide +kernel
theorem yf4_len : (namesM yf4).length = 64 := by decide +kernel
theorem conv3 {i : Nat} (hi : i < 64) (w : World) :
    (convert 27 9 (.slice (some ⟨w.heap.size, 0, none⟩) 3 3)).run Try.prog (w.alloc (.cells #[.int .u8 102, .int .u8 (48 + (i : Int) / 10), .int .u8 (48 + (i : Int) % 10)] 5)) = .ok (str (nmF i)) (w.alloc (.cells #[.int .u8 102, .int .u8 (48 + (i : Int) / 10), .int .u8 (48 + (i : Int) % 10)] 5)) := by
  have h := conv_bytes (bytes_made w (nmF i) (by simp [nmF]))
  have ea : ((UInt8.ofNat (48 + i / 10)).toNat : Int) = 48 + (i : Int) / 10 := by rw [UInt8.toNat_ofNat', Nat.mod_eq_of_lt (by omega)]; omega
  have eb : ((UInt8.ofNat (48 + i % 10)).toNat : Int) = 48 + (i : Int) % 10 := by rw [UInt8.toNat_ofNat', Nat.mod_eq_of_lt (by omega)]; omega
  have e : (byt (nmF i)).toArray = #[.int .u8 102, .int .u8 (48 + (i : Int) / 10), .int .u8 (48 + (i : Int) % 10)] := by
    rw [← ea, ← eb]; rfl
  rw [e] at h
  exact h

set_option linter.unusedSimpArgs false in
set_option maxRecDepth 100000 in
set_option maxHeartbeats 4000000 in
theorem files_walk (w : World) : Calls Try.prog 3 #[] w fun e w' => e = .returned (.bool true) ∧ Frm [] w w' := by
  have hcv1 := fun w => Go.Lib.run_convert_bytes_const (P := Try.prog) w 27 5 #[.int .u8 120] 1 1 Try.underlying27 Try.underlying5
  go_enter Try.func3, Try.ntmps3
  go_wp2_with fail
  refine (own_new (w0 := w) (S := []) 1000 (by decide) (by simp) (Frm.refl _ _)).mono ?_
  rintro e1 w1 ⟨d, rfl, ho1, -, -⟩
  have HO1 := Lib.hid ho1
  clear ho1
  go_wp2_with fail
  go_loopg [3] 64 (fun q s3 wr => ∃ i : Nat, q = 64 - i ∧ i ≤ 64 ∧ s3 = .int .i64 (i : Int) ∧ Own w [] wr d i (fmF i))
  case atStart => exact ⟨0, rfl, by omega, rfl, HO1.out⟩
  case round =>
    clear HO1
    obtain ⟨i, rfl, hi, rfl, ho⟩ := hrel
    have HO := Lib.hid ho
    have i0 : (0 : Int) ≤ (i : Int) := by omega
    clear ho
    by_cases hil : i < 64
    · have i1 : (i : Int) < 64 := by omega
      have hcv := conv3 hil wr
      have HOK := Lib.hid (fmF_ok hil)
      go_wp2_with fail
      refine (own_append (HO.out.nil ((Frm.refl [] wr).alloc _)) (by omega) (s := nmF i) (by simp [nmF, maxLen]) (b := []) (.inl ⟨rfl, rfl⟩) (fun k hk => by simp [Value.ownBlock] at hk)).mono ?_
      rintro e2 w2 ⟨he2, ho2, -, -⟩
      rw [HOK.out] at he2
      subst he2
      have HO2 : Hid (Own w [] w2 d (i + 1) (fmF (i + 1))) := Lib.hid ho2
      clear ho2 hcv
      go_wp2_with fail
      go_roundg (64 - (i + 1))
      case rel => exact ⟨i + 1, rfl, hil, by go_num, HO2.out⟩
      case measure => omega
    · have i1 : ¬ (i : Int) < 64 := by omega
      obtain rfl : i = 64 := by omega
      clear hi hil i0
      go_wp2_with fail
      refine (own_append HO.out (by decide) (s := [103]) (by decide) (b := []) (.inl ⟨rfl, rfl⟩) (fun k hk => by simp [Value.ownBlock] at hk)).mono ?_
      rintro e2 w2 ⟨he2, ho2, -, -⟩
      rw [yf1_ok] at he2
      subst he2
      have HO2 : Hid (Own w [] w2 d 65 yf1) := Lib.hid ho2
      clear ho2
      go_wp2_with fail
      refine (own_append (HO2.out.more _) (by decide) (s := [102, 48, 48]) (by decide) (b := [120]) (bytes_marked w2 [120] (by decide) _) (fun k hk => by simp [Value.ownBlock] at hk; simp [hk])).mono ?_
      rintro e3 w3 ⟨he3, ho3, -, -⟩
      rw [yf2_ok] at he3
      subst he3
      have HO3 : Hid (Own w [] w3 d 66 yf2) := Lib.hid (ho3.less (by simp))
      clear ho3
      go_wp2_with fail
      refine (own_delete HO3.out (by decide) (s := [102, 48, 49]) (by decide)).mono ?_
      rintro e4 w4 ⟨he4, ho4, -, -⟩
      rw [yf3_ok] at he4
      subst he4
      have HO4 : Hid (Own w [] w4 d 67 yf3) := Lib.hid ho4
      clear ho4
      go_wp2_with fail
      refine (own_append HO4.out (by decide) (s := [103]) (by decide) (b := []) (.inl ⟨rfl, rfl⟩) (fun k hk => by simp [Value.ownBlock] at hk)).mono ?_
      rintro e5 w5 ⟨he5, ho5, -, -⟩
      rw [yf4_ok] at he5
      subst he5
      have HO5 : Hid (Own w [] w5 d 68 yf4) := Lib.hid ho5
      clear ho5
      go_wp2_with fail
      refine (own_names HO5.out).mono ?_
      rintro e6 w6 ⟨⟨a6, c6, rfl, -⟩, hf6⟩
      rw [yf4_len]
      have HF6 := Lib.hid (HO5.out.frm.trans hf6 (by simp))
      clear hf6
      go_wp2_with fail
      refine (sane_any w6).mono ?_
      rintro e7 w7 ⟨rfl, hf7⟩
      go_wp2_with fail
      go_ret
      exact ⟨rfl, HF6.out.trans hf7 (by simp)⟩

end Go.Proofs.Ytkebdgbjgbcneaa
