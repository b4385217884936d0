/- sane of the law answers true. -/
import Derived.Test.YtkebdgbjgbcneaaDQ
import Derived.Laws.BytesArg
import Derived.Lib.SlBytesConst
namespace Go.Proofs.Ytkebdgbjgbcneaa
open Go.RowKit Go.Maps Go.Shelf

theorem conv_bytes {w : World} {v : Value} {xs : List UInt8} (h : BytesV w v xs) : (convert 27 9 v).run Try.prog w = .ok (str xs) w := by
  rcases h with ⟨rfl, rfl⟩ | ⟨b, o, cap, rfl, h1, h2, h3, h4⟩
  · exact run_convert_bytes_nil w 27 5 Try.underlying27 Try.underlying5 0 0 9 Try.underlying9
  · rw [run_convert_bytes_arg w 27 5 Try.underlying27 Try.underlying5 b o xs.length cap (xs.map fun x => (x.toNat : Int)) (by simp) (fun i hi => ?_) 9 Try.underlying9]
    · have e : (xs.map fun x => (x.toNat : Int)).map (fun n => UInt8.ofNat n.toNat) = xs := by
        rw [List.map_map]
        refine (List.map_congr_left (fun x _ => ?_)).trans (List.map_id _)
        simp
      rw [strOfNums, e]
    · have hx := List.getElem?_eq_getElem hi
      rw [h4 i _ hx, List.getD_eq_getElem?_getD, List.getElem?_map, hx]
      rfl
theorem bytes_marked (w : World) (xs : List UInt8) (hl : xs.length ≤ 1000) (fr : Nat × Nat) : BytesV (w.alloc (.cells (byt xs).toArray 5 fr)) (.slice (some ⟨w.heap.size, 0, none⟩) xs.length xs.length) xs :=
  .inr ⟨w.heap.size, 0, xs.length, rfl, Nat.le_refl _, by unfold maxLen; omega, by simp, fun i x hx => by
    have h1 : (w.alloc (.cells (byt xs).toArray 5 fr)).heap[w.heap.size]? = some (.cells (byt xs).toArray 5 fr) := by
      show (w.heap.push _)[w.heap.size]? = _
      simp
    rw [Nat.zero_add, World.cell?, h1]
    simp [byt_of hx]⟩

def sm1 : DM := (appendM (emptyM 100) [97] [120, 121, 122]).2
def sm2 : DM := (syncM sm1 [97]).2
def sm3 : DM := (appendM sm2 [97] [112, 113]).2
def sm4 : DM := crashM sm3 [0, 1]
theorem sm1_ok : (appendM (emptyM 100) [97] [120, 121, 122]).1 = 0 := by decide
theorem sm2_ok : (syncM sm1 [97]).1 = 0 := by decide
theorem sm3_ok : (appendM sm2 [97] [112, 113]).1 = 0 := by decide
theorem sm4_ok : readM sm4 [97] = ([120, 121, 122, 112], 0) := by decide
theorem intsV_made {w0 w : World} {S : List Nat} (xs : List Int) (hl : xs.length ≤ 1000) : IntsV w0 (w.heap.size :: S) (w.alloc (.cells (ints xs).toArray 3)) (some ⟨w.heap.size, 0, none⟩) xs.length xs.length xs :=
  ⟨rfl, Nat.le_refl _, by unfold maxLen; omega, fun i x hx => ⟨w.heap.size, 0, rfl, .inl List.mem_cons_self, by
    rw [Nat.zero_add]
    exact (RowAt.made w 3 (ints xs) (ints xs).toArray (by simp)).cell (by simp [ints, hx])⟩⟩

set_option linter.unusedSimpArgs false in
set_option maxRecDepth 100000 in
set_option maxHeartbeats 2000000 in
theorem sane_any (w : World) : Calls Try.prog 13 #[] w fun e w' => e = .returned (.bool true) ∧ Frm [] w w' := by
  have hcv1 := fun w => Go.Lib.run_convert_bytes_const (P := Try.prog) w 27 5 #[.int .u8 120, .int .u8 121, .int .u8 122] 3 3 Try.underlying27 Try.underlying5
  have hcv2 := fun w => Go.Lib.run_convert_bytes_const (P := Try.prog) w 27 5 #[.int .u8 112, .int .u8 113] 2 2 Try.underlying27 Try.underlying5
  go_enter Try.func13, Try.ntmps13
  go_wp2_with fail
  refine (own_new (w0 := w) (S := []) 100 (by decide) (by simp) (Frm.refl _ _)).mono ?_
  rintro e1 w1 ⟨d, rfl, ho1, -, -⟩
  have HO1 := Lib.hid ho1
  clear ho1
  go_wp2_with fail
  refine (own_append (HO1.out.more _) (by decide) (s := [97]) (by decide) (b := [120, 121, 122]) (bytes_marked w1 [120, 121, 122] (by decide) _) (fun k hk => by simp [Value.ownBlock] at hk; simp [hk])).mono ?_
  rintro e2 w2 ⟨he2, ho2, -, -⟩
  rw [sm1_ok] at he2
  subst he2
  have HO2 : Hid (Own w [w1.heap.size] w2 d 1 sm1) := Lib.hid ho2
  clear ho2
  go_wp2_with fail
  refine (own_sync HO2.out (s := [97]) (by decide)).mono ?_
  rintro e3 w3 ⟨he3, ho3, -, -⟩
  rw [sm2_ok] at he3
  subst he3
  have HO3 : Hid (Own w [w1.heap.size] w3 d 1 sm2) := Lib.hid ho3
  clear ho3
  go_wp2_with fail
  refine (own_append (HO3.out.more _) (by decide) (s := [97]) (by decide) (b := [112, 113]) (bytes_marked w3 [112, 113] (by decide) _) (fun k hk => by simp [Value.ownBlock] at hk; simp [hk])).mono ?_
  rintro e4 w4 ⟨he4, ho4, -, -⟩
  rw [sm3_ok] at he4
  subst he4
  have HO4 : Hid (Own w [] w4 d 2 sm3) := Lib.hid (ho4.less (by simp))
  clear ho4
  go_wp2_with fail
  refine (own_crash (HO4.out.more _) (by decide) (keep := [0, 1]) (intsV_made [0, 1] (by decide))).mono ?_
  rintro e5 w5 ⟨rfl, ho5, -, -⟩
  have HO5 : Hid (Own w [] w5 d 2 sm4) := Lib.hid (ho5.less (by simp))
  clear ho5
  go_wp2_with fail
  refine (own_read HO5.out (s := [97]) (by decide)).mono ?_
  rintro e6 w6 ⟨hr6, hf6⟩
  rw [sm4_ok] at hr6
  obtain ⟨a6, c6, rfl, hown6⟩ := hr6
  have hcv := conv_bytes (bytesV_of_owns hown6)
  have hcv' : (convert 27 9 (.slice a6 4 c6)).run Try.prog w6 = .ok (.string ⟨#[120, 121, 122, 112]⟩) w6 := hcv
  have HF6 := Lib.hid (HO5.out.frm.trans hf6 (by simp))
  clear hown6 hcv hf6
  go_wp2_with fail
  go_ret
  exact ⟨rfl, HF6.out⟩

end Go.Proofs.Ytkebdgbjgbcneaa
