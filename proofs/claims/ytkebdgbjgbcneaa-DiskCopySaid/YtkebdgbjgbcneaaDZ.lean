/- Contract of data of the law; append to a row that is full. -/
import Derived.Test.YtkebdgbjgbcneaaDV
namespace Go.Proofs.Ytkebdgbjgbcneaa
open Go.RowKit Go.Maps Go.Shelf

/-- append(s, u...) at []byte, where s has no room: a new row. -/
theorem app_grow {w : World} {ops : Array Oper} {rest : List Oper} {o : Oper} {a : Act} {Q : Exit → Act → World → Prop} (hgd : o.guard = none) (s x : Operand)
    (ho : o.op = .call { callee := .builtin .append, args := #[s, x], argTypes := #[27, 27] })
    (g n N : Nat) (xs : List UInt8) (hs : a.eval s = .slice (some ⟨g, 0, none⟩) n n) (hn : xs.length = n) (hown : ∀ (i : Nat) (x : UInt8), xs[i]? = some x → w.cell? ⟨g, i, none⟩ = some (.int .u8 (x.toNat : Int))) (u : Value) (ys : List UInt8) (hx : a.eval x = u) (hy : BytesV w u ys) (hpos : 0 < ys.length) (hN : n + ys.length = N) (hb : N ≤ 1000000000)
    (h : ∀ cp w', w'.ownsRow w.heap.size 5 1 (.slice (some ⟨w.heap.size, 0, none⟩) N cp) N (byt (xs ++ ys)) → Frm [] w w' → wpList Try.prog ops Q rest (a.put o.dst (.slice (some ⟨w.heap.size, 0, none⟩) N cp)) w') : wpList Try.prog ops Q (o :: rest) a w := by
  obtain ⟨i0, hi, hz0, hz1, hz2⟩ := info_parts infoB
  rcases hy with ⟨rfl, rfl⟩ | ⟨b, off, cap2, rfl, g1, g2, g3, g4⟩
  · simp at hpos
  · have hnews : ∀ j u, (byt ys)[j]? = some u → w.cell? ((⟨b, off, none⟩ : Addr).add j) = some u := fun j u hj => by
      obtain ⟨z, hz, rfl⟩ := byt_get hj
      rw [Addr.add_lit]
      exact g4 j z hz
    have holds : ∀ j u, (byt xs)[j]? = some u → w.cell? ((⟨g, 0, none⟩ : Addr).add j) = some u := fun j u hj => by
      obtain ⟨z, hz, rfl⟩ := byt_get hj
      rw [Addr.add_lit, Nat.zero_add]
      exact hown j z hz
    subst hN
    refine wpList_plain hgd fun K hK => ?_
    have hr := run_append_grow (P := Try.prog) w 27 o.type 5 i0 (.int .u8 0) Try.underlying27 hi hz0 ⟨g, 0, none⟩ n n (byt xs) (by rw [hz1, byt_len, Nat.mul_one, hn]) holds ⟨b, off, none⟩ ys.length cap2 (byt ys) (by rw [hz1, byt_len, Nat.mul_one]) hnews (by omega) (by omega) (growslice_fits (by omega) (by rw [hz2]; omega))
    unfold Oper.wp execOp
    simp only [ho, resolve, invoke, builtin, Sem.run_bind, Sem.run_pure, Result.andThen_ok, List.map_toArray, List.map_cons, List.map_nil, hs, hx, hr]
    have hge := grownCap_ge w (n + ys.length) n 5
    have hcm : grownCap w (n + ys.length) n 5 ≤ maxLen := grownCap_le_maxLen w (n + ys.length) n 5 (by unfold maxLen; omega)
    refine hK _ _ (h _ _ ⟨by rw [byt_len, List.length_append, hn, Nat.mul_one], .inr ⟨w.heap.size, _, _, rfl, Nat.le_refl _, heap_alloc_new w.drew _, hge, hcm, ?_, ?_⟩⟩ ?_)
    · simp only [Array.size_append, List.size_toArray, size_zeroCells, byt_len]
      simp [Value.cells]
      omega
    · simp only [Array.toList_append, List.append_assoc]
      rw [← List.append_assoc, byt_app]
      have e4 : (n + ys.length) * 1 = (byt xs ++ byt ys).length := by rw [List.length_append, byt_len, byt_len, hn, Nat.mul_one]
      rw [e4]
      exact List.take_left
    · exact ⟨rfl, rfl, rfl, by simp, fun k hk _ => heap_alloc_old w.drew _ hk⟩

theorem TapeOk.keep {B tb N : Nat} {S : List Nat} {w0 w w' : World} (h : TapeOk B w tb N) (hk : Keeps S w w') (ht : tb ∈ S) (hB : B ≤ w0.heap.size) (f1 : Frm [] w0 w) (f2 : Frm [] w0 w') : TapeOk B w' tb N := by
  obtain ⟨a, cap, xs, at0, h1, h2, h3, h4⟩ := h
  refine ⟨a, cap, xs, at0, h1.of_block (hk tb ht), ⟨h2.len, h2.le, h2.max, fun i u hu => ?_⟩, h3, h4⟩
  obtain ⟨b, o, e, hb, hc⟩ := h2.cell i u hu
  refine ⟨b, o, e, hb, ?_⟩
  rw [World.cell?_of_block ((f2.block b (Nat.lt_of_lt_of_le hb hB) (by simp)).trans (f1.block b (Nat.lt_of_lt_of_le hb hB) (by simp)).symm)]
  exact hc

theorem BytesV.sub {w : World} {g n c0 : Nat} {xs : List UInt8} (h : BytesV w (.slice (some ⟨g, 0, none⟩) n c0) xs) {p k c : Nat} (hk : p + k ≤ xs.length) (hc : k ≤ c) (hm : c ≤ maxLen) : BytesV w (.slice (some ⟨g, p, none⟩) k c) ((xs.drop p).take k) := by
  rcases h with ⟨h, _⟩ | ⟨b, o, cap, e, h1, h2, h3, h4⟩
  · cases h
  · simp only [Value.slice.injEq, Option.some.injEq, Addr.mk.injEq, and_true] at e
    obtain ⟨⟨rfl, rfl⟩, _, _⟩ := e
    have hl : ((xs.drop p).take k).length = k := by rw [List.length_take, List.length_drop]; omega
    refine .inr ⟨g, p, c, by rw [hl], by omega, hm, h3, fun i x hx => ?_⟩
    have hi : i < k := by have := (List.getElem?_eq_some_iff.1 hx).1; omega
    rw [List.getElem?_take_of_lt hi, List.getElem?_drop] at hx
    have := h4 (p + i) x hx
    rwa [Nat.zero_add] at this
def abcB : List UInt8 := [97, 98, 99, 100, 101, 102, 103, 104, 105, 106]
def DataEnd (g : Nat) (w' : World) (e : Ending) : Prop := ∃ (xs : List UInt8) (p c : Nat), e = .returned (.slice (some ⟨g, p, none⟩) xs.length c) ∧ BytesV w' (.slice (some ⟨g, p, none⟩) xs.length c) xs ∧ 1 ≤ xs.length ∧ xs.length ≤ 9
set_option linter.unusedSimpArgs false in
set_option maxRecDepth 100000 in
set_option maxHeartbeats 2000000 in
theorem data_any {B tb N : Nat} {w : World} (h : TapeOk B w tb N) (hB : B ≤ tb) (hN : N ≤ 1000000) :
    Calls Try.prog 15 #[.pointer (some ⟨tb, 0, none⟩)] w fun e w' => DataEnd w.heap.size w' e ∧ TapeOk B w' tb (N + 2) ∧ Frm [tb] w w' ∧ w.heap.size < w'.heap.size := by
  have hcv := fun w => Go.Lib.run_convert_bytes_const (P := Try.prog) w 27 5 #[.int .u8 97, .int .u8 98, .int .u8 99, .int .u8 100, .int .u8 101, .int .u8 102, .int .u8 103, .int .u8 104, .int .u8 105, .int .u8 106] 10 10 Try.underlying27 Try.underlying5
  have htl := h.lt
  have f1 : Frm [] w (w.alloc (.cells #[.int .u8 97, .int .u8 98, .int .u8 99, .int .u8 100, .int .u8 101, .int .u8 102, .int .u8 103, .int .u8 104, .int .u8 105, .int .u8 106] 5 (10, 11))) := (Frm.refl [] w).alloc _
  have H1 := Lib.hid (h.nil f1)
  have hb1 := bytes_marked w abcB (by decide) (10, 11)
  have HB1 : Hid (BytesV (w.alloc (.cells #[.int .u8 97, .int .u8 98, .int .u8 99, .int .u8 100, .int .u8 101, .int .u8 102, .int .u8 103, .int .u8 104, .int .u8 105, .int .u8 106] 5 (10, 11))) (.slice (some ⟨w.heap.size, 0, none⟩) 10 10) abcB) := Lib.hid hb1
  have F1 := Lib.hid f1
  have HTL := Lib.hid htl
  have HBT := Lib.hid hB
  have HNN := Lib.hid hN
  clear h f1 hb1 htl hB hN
  go_enter Try.func15, Try.ntmps15
  go_wp2_with fail
  have hN4 := HNN.out
  refine (next_any B tb N 4 _ H1.out HBT.out (by omega) (by decide)).mono ?_
  rintro e2 w2 ⟨⟨v2, rfl, hv2, -⟩, hT2, hf2⟩
  have hv2' := hv2 (by decide)
  obtain ⟨p, rfl⟩ : ∃ p : Nat, v2 = (p : Int) := ⟨v2.toNat, by omega⟩
  have hp4 : p < 4 := by omega
  have HT2 := Lib.hid hT2
  have HF2 := Lib.hid hf2
  clear hv2 hv2' hT2 hf2 hN4
  go_wp2_with fail
  have hN4 := HNN.out
  refine (next_any B tb (N + 1) 6 _ HT2.out HBT.out (by omega) (by decide)).mono ?_
  rintro e3 w3 ⟨⟨v3, rfl, hv3, -⟩, hT3, hf3⟩
  have hv3' := hv3 (by decide)
  obtain ⟨q, rfl⟩ : ∃ q : Nat, v3 = (q : Int) := ⟨v3.toNat, by omega⟩
  have hq6 : q < 6 := by omega
  obtain ⟨s, hs⟩ : ∃ s, s = 4 + q := ⟨_, rfl⟩
  have iw : IntKind.i64.wrap (4 + (q : Int)) = (s : Int) := by rw [IntWalk.i64_in _ (by omega)]; omega
  have iw2 : RowKit.wrap64 (4 + (q : Int)) = (s : Int) := by rw [← IntWalk.i64_left]; exact iw
  have i1 : (p : Int) ≤ (s : Int) := by omega
  have i2 : (s : Int) ≤ 10 := by omega
  have i3 : (0 : Int) ≤ (p : Int) := by omega
  have i4 : (p : Int) ≤ 10 := by omega
  have HT3 := Lib.hid hT3
  have HF3 := Lib.hid hf3
  have hp10 : p ≠ 10 := by omega
  clear hv3 hv3' hT3 hf3 hN4
  go_wp2_with fail
  go_ret
  have hb := (HB1.out.frm HF2.out (fun k hk hm => by
    simp only [Value.ownBlock, Option.some.injEq] at hk
    have := HTL.out
    rw [List.mem_singleton] at hm
    omega)).frm HF3.out (fun k hk hm => by
    simp only [Value.ownBlock, Option.some.injEq] at hk
    have := HTL.out
    rw [List.mem_singleton] at hm
    omega)
  have hl : ((abcB.drop p).take (4 + q - p)).length = 4 + q - p := by
    rw [List.length_take, List.length_drop, show abcB.length = 10 from rfl]
    omega
  have hbs := hb.sub (p := p) (k := 4 + q - p) (c := 10 - p) (by rw [show abcB.length = 10 from rfl]; omega) (by omega) (by unfold maxLen; omega)
  have hF : Frm [tb] w w3 := ((F1.out.mono (by simp)).trans HF2.out (fun x hx => .inl hx)).trans HF3.out (fun x hx => .inl hx)
  have hsz : w.heap.size < w3.heap.size := by
    have h1 := HF2.out.size
    have h2 := HF3.out.size
    rw [World.size_alloc] at h1
    omega
  refine ⟨⟨(abcB.drop p).take (4 + q - p), p, 10 - p, ?_, ?_, ?_, ?_⟩, HT3.out, hF, hsz⟩
  · rw [hl]; rfl
  · rw [hl]; exact hbs
  · omega
  · omega

end Go.Proofs.Ytkebdgbjgbcneaa
