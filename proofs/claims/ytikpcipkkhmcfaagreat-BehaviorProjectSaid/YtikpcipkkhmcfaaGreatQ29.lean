/- Texts U1, U2. -/
import Derived.Test.YtikpcipkkhmcfaaGreatQ00
import Derived.Test.YtikpcipkkhmcfaaGreatQ06
import Derived.Laws.IdiomStrings
import Derived.Test.YtikpcipkkhmcfaaGreatQ25
/- Plain: the bytes that stand for a list of numbers, and that they tell the list. No program. -/
namespace Go.Proofs.YtikpcipkkhmcfaaGreat.Beh

/-- The four bytes of a number. -/
def kb (n : Int) : List Nat := [n.toNat / 16777216 % 256, n.toNat / 65536 % 256, n.toNat / 256 % 256, n.toNat % 256]
def keyL (l : List Int) : List Nat := l.flatMap kb
theorem keyL_len (l : List Int) : (keyL l).length = l.length * 4 := by
 induction l with
 | nil => rfl
 | cons a r ih =>
  simp only [keyL, List.flatMap_cons, List.length_append, kb, List.length_cons, List.length_nil] at ih ⊢
  omega
theorem keyL_cons (a : Int) (r : List Int) : keyL (a :: r) = kb a ++ keyL r := rfl
theorem keyL_snoc (l : List Int) (a : Int) : keyL (l ++ [a]) = keyL l ++ kb a := by simp [keyL]
theorem keyL_lt (l : List Int) : ∀ b ∈ keyL l, b < 256 := by
 intro b hb
 obtain ⟨n, _, hn⟩ := List.mem_flatMap.1 hb
 simp only [kb, List.mem_cons, List.not_mem_nil, or_false] at hn
 omega
def Small (l : List Int) : Prop := ∀ x ∈ l, 0 ≤ x ∧ x < 2147483648
theorem kb_inj {a b : Int} (ha : 0 ≤ a ∧ a < 2147483648) (hb : 0 ≤ b ∧ b < 2147483648) (h : kb a = kb b) : a = b := by
 simp only [kb, List.cons.injEq, and_true] at h
 omega
theorem keyL_inj : ∀ {l m : List Int}, Small l → Small m → keyL l = keyL m → l = m
 | [], [], _, _, _ => rfl
 | [], b :: m, _, _, h => by
  have := congrArg List.length h
  rw [keyL_len, keyL_len] at this
  simp at this
 | a :: l, [], _, _, h => by
  have := congrArg List.length h
  rw [keyL_len, keyL_len] at this
  simp at this
 | a :: l, b :: m, hl, hm, h => by
  rw [keyL_cons, keyL_cons] at h
  obtain ⟨h1, h2⟩ := List.append_inj h rfl
  rw [kb_inj (hl a (by simp)) (hm b (by simp)) h1, keyL_inj (fun x hx => hl x (List.mem_cons_of_mem _ hx)) (fun x hx => hm x (List.mem_cons_of_mem _ hx)) h2]
/-- The string of a list. -/
def keyS (l : List Int) : ByteArray := ⟨((keyL l).map UInt8.ofNat).toArray⟩
theorem ofNat_inj : ∀ {a b : List Nat}, (∀ x ∈ a, x < 256) → (∀ x ∈ b, x < 256) → a.map UInt8.ofNat = b.map UInt8.ofNat → a = b
 | [], [], _, _, _ => rfl
 | [], _ :: _, _, _, h => by simp at h
 | _ :: _, [], _, _, h => by simp at h
 | x :: a, y :: b, ha, hb, h => by
  simp only [List.map_cons, List.cons.injEq] at h
  have hx := ha x (by simp)
  have hy := hb y (by simp)
  have h1 : x = y := by
   have := congrArg UInt8.toNat h.1
   simp at this
   omega
  rw [h1, ofNat_inj (fun z hz => ha z (List.mem_cons_of_mem _ hz)) (fun z hz => hb z (List.mem_cons_of_mem _ hz)) h.2]
theorem keyS_inj {l m : List Int} (hl : Small l) (hm : Small m) (h : keyS l = keyS m) : l = m := by
 simp only [keyS, ByteArray.mk.injEq] at h
 have h2 : (keyL l).map UInt8.ofNat = (keyL m).map UInt8.ofNat := by
  have := congrArg Array.toList h
  simpa using this
 exact keyL_inj hl hm (ofNat_inj (keyL_lt l) (keyL_lt m) h2)
end Go.Proofs.YtikpcipkkhmcfaaGreat.Beh

/- Contract of flow.Key. -/
namespace Go.Proofs.YtikpcipkkhmcfaaGreat.Beh
open Go.RowKit Go.Lib Go.Proofs.YtikpcipkkhmcfaaGreat

theorem infoU8 : (Tryz.prog.info? 5).map (fun i => (i.zero, i.size, i.bytes)) = some (some (.int .u8 0), 1, 1) := by kernel_rfl
def u8s (l : List Nat) : List Value := l.map fun (b : Nat) => Value.int .u8 (b : Int)
theorem kb_vals {x : Int} (h : 0 ≤ x ∧ x < 2147483648) : u8s (kb x) = [.int .u8 (x / 16777216), .int .u8 (x / 65536 % 256), .int .u8 (x / 256 % 256), .int .u8 (x % 256)] := by
 simp only [u8s, kb, List.map_cons, List.map_nil, List.cons.injEq, Value.int.injEq, true_and, and_true]
 omega
theorem u8s_app (a b : List Nat) : u8s (a ++ b) = u8s a ++ u8s b := by simp [u8s]
theorem key_cells {w : World} {g cap n : Nat} {l : List Int} (h : (ownC 5 1 (.slice (some ⟨g, 0, none⟩) n cap) n (u8s (keyL l))).P w) :
  ∀ j (hj : j < ((keyL l).map UInt8.ofNat).length), w.cell? ((⟨g, 0, none⟩ : Addr).add j) = some (.int .u8 ((((keyL l).map UInt8.ofNat)[j]).toNat : Int)) := by
 intro j hj
 rw [Addr.add_lit, Nat.zero_add]
 rw [List.length_map] at hj
 refine ownC_cell h ?_
 have hlt := keyL_lt l ((keyL l)[j]) (List.getElem_mem hj)
 have e1 : (UInt8.ofNat ((keyL l)[j])).toNat = (keyL l)[j] := by simp; omega
 rw [List.getElem_map, e1, u8s, List.getElem?_map, List.getElem?_eq_getElem hj]
 rfl
set_option linter.unusedSimpArgs false in
set_option maxRecDepth 100000 in
set_option maxHeartbeats 4000000 in
theorem key_any {F : List Nat} (w : World) (v : Value) (l : List Int) (h : RowV w F v l.length 1 (ints l)) (hs : Small l) (hl : l.length ≤ 100000) :
  Calls Tryz.prog 48 #[v] w fun e w' => e = .returned (.string (keyS l)) ∧ Frm [] w w' := by
 obtain ⟨a, c, rfl⟩ := RowV.shape h
 obtain ⟨i0, hi, hz0, hz1, hz2⟩ := info_parts infoU8
 have HI := Lib.hid hi
 have HZ0 := Lib.hid hz0
 have HZ1 := Lib.hid hz1
 have HZ2 := Lib.hid hz2
 have i1 : (l.length : Int) ≤ 100000 := by omega
 have x1 : IntKind.i64.wrap (4 * (l.length : Int)) = ((4 * l.length : Nat) : Int) := by rw [IntWalk.i64_in _ (by omega)]; omega
 have hlc : (l.length : Int) ≤ (c : Int) := by
  obtain ⟨_, a', c', e, h2, _⟩ := h
  cases e
  omega
 have H := Lib.hid h
 have HS := Lib.hid hs
 clear h hs hi hz0 hz1 hz2
 go_enter Tryz.func48, Tryz.ntmps48
 go_wp2_with (first | (at_make; refine wpList_make_own _ rfl _ _ 106 rfl w.heap.size 5 i0 (.int .u8 0) 1 Tryz.underlying106 HI.out HZ0.out HZ1.out .i64 .i64 _ (4 * l.length) rfl rfl rfl (by rw [HZ2.out]; omega) (by unfold maxLen; omega) (Nat.le_refl _) ?_) | (at_make; fail))
 intro w2 own2 hg2
 have hf2 : Frm [] w w2 := (Frm.refl [] w).grown hg2 (by simp)
 have S2 := Lib.hid ((Sep.start w).add (ownC 5 1 (.slice (some ⟨w.heap.size, 0, none⟩) 0 (4 * l.length)) 0 (u8s (keyL []))) hf2 (ownC_of own2) (ownC_new own2))
 clear own2 hg2 hf2
 go_wp2_with fail
 go_loopg [3, 12] l.length (fun q t3 t12 wr => ∃ (k : Nat) (ba bc : Nat), q = l.length - k ∧ k ≤ l.length ∧ t12 = .int .i64 k ∧ t3 = .slice (some ⟨ba, 0, none⟩) (4 * k) bc ∧ Sep w wr [ownC 5 1 (.slice (some ⟨ba, 0, none⟩) (4 * k) bc) (4 * k) (u8s (keyL (l.take k)))])
 case atStart => exact ⟨0, w.heap.size, _, rfl, Nat.zero_le _, rfl, rfl, S2.out⟩
 case round =>
  clear S2
  obtain ⟨k, ba, bc, hq, hk, rfl, rfl, hs⟩ := hrel
  have HQ := Lib.hid hq
  have S := Lib.hid hs
  have i4 : (0 : Int) ≤ (k : Int) := by omega
  clear hq hs
  by_cases hlt : k < l.length
  ·have i5 : (k : Int) < (l.length : Int) := by omega
   obtain ⟨x, hx⟩ : ∃ x, l[k]? = some x := ⟨_, List.getElem?_eq_getElem hlt⟩
   obtain ⟨_, a', c', e', _, _, _, hcell⟩ := H.out
   obtain ⟨rfl, rfl⟩ : a = a' ∧ c = c' := by simpa using e'
   obtain ⟨b, o, rfl, _, hbl, hc⟩ := hcell k (.int .i64 x) (by simp [ints, hx])
   have c0 := S.out.frm.cell hc (by simp)
   have hsx := HS.out x (List.mem_of_getElem? hx)
   clear hcell hc e'
   have HSX := Lib.hid hsx
   have HX := Lib.hid hx
   have S3 := Lib.hid (S.out.nil ((Frm.refl [] wr).alloc (.cells #[.int .u8 (x / 16777216), .int .u8 (x / 65536 % 256), .int .u8 (x / 256 % 256), .int .u8 (x % 256)] 5)))
   clear hx
   go_wp2_with (first
    | (at_builtin; refine app_row rfl (.tmp 16) (.tmp 28) 106 5 _ 1 1 rfl Tryz.underlying106 infoU8 rfl (by decide) (by decide) 0 (4 * k) (.slice (some ⟨ba, 0, none⟩) (4 * k) bc) _ rfl (S3.out.at_ 0 rfl) _ 4 [.int .u8 (x / 16777216), .int .u8 (x / 65536 % 256), .int .u8 (x / 256 % 256), .int .u8 (x % 256)] [] rfl (rowV_cells (size := 1) (RowAt.made wr 5 [.int .u8 (x / 16777216), .int .u8 (x / 65536 % 256), .int .u8 (x / 256 % 256), .int .u8 (x % 256)] #[.int .u8 (x / 16777216), .int .u8 (x / 65536 % 256), .int .u8 (x / 256 % 256), .int .u8 (x % 256)] rfl) rfl (Nat.le_refl _) (by decide) (by simp)) (by simp [Value.oneCell']) (4 * (k + 1)) (by omega) (by omega) (Nat.zero_le _) ?_; intro a8 c8 w8 own8 hf8 hb8; have S8 := Lib.hid (S3.out.step 0 (ownC 5 1 (.slice a8 (4 * (k + 1)) c8) (4 * (k + 1)) (u8s (keyL (l.take (k + 1))))) rfl hf8 (fun k hk => .inl hk) (by rw [Ind.take_snoc HX.out, keyL_snoc, u8s_app, kb_vals HSX.out]; exact own8) (fresh_own hb8)); clear own8 hf8 hb8)
    | fail)
   obtain ⟨ba8, bc8, e8, _⟩ := ownC_some (S8.out.at_ 0 rfl) (by omega)
   obtain ⟨rfl, rfl⟩ : a8 = some ⟨ba8, 0, none⟩ ∧ c8 = bc8 := by simpa using e8
   go_roundg (l.length - (k + 1))
   case rel => exact ⟨k + 1, ba8, c8, rfl, by omega, by go_num, rfl, S8.out⟩
   case measure => have := HQ.out; omega
  ·have i5 : ¬ (k : Int) < (l.length : Int) := by omega
   have hkl : k = l.length := by omega
   have hsS := S.out
   rw [hkl, List.take_length] at hsS
   have hcv := run_convert_bytes_back (P := Tryz.prog) wr 106 9 5 ⟨ba, 0, none⟩ bc ((keyL l).map UInt8.ofNat) Tryz.underlying106 Tryz.underlying5 Tryz.underlying9 (key_cells (hsS.at_ 0 rfl))
   rw [List.length_map, keyL_len, show l.length * 4 = 4 * k by omega] at hcv
   have HFR := Lib.hid hsS.frm
   have hks : (ByteArray.mk ((keyL l).map UInt8.ofNat).toArray) = keyS l := rfl
   rw [hks] at hcv
   clear hkl hsS S hks
   go_wp2_with fail
   go_ret
   exact ⟨rfl, HFR.out⟩
end Go.Proofs.YtikpcipkkhmcfaaGreat.Beh
