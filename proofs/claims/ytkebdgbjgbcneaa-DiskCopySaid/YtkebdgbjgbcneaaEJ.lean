/- Both disks side by side: the calls of each. -/
import Derived.Test.YtkebdgbjgbcneaaEH
import Derived.Test.YtkebdgbjgbcneaaEI
import Derived.Test.YtkebdgbjgbcneaaDZ
namespace Go.Proofs.Ytkebdgbjgbcneaa
open Go.RowKit Go.Maps Go.Shelf

/-- The program's disk at d is m1, the reference's at r is m2; fp: the blocks of the first; S: other blocks that may turn. -/
structure BoX (w0 w : World) (fp S : List Nat) (d r N : Nat) (m1 m2 : DM) : Prop where
  pd : PD w d fp m1
  new : ∀ x ∈ fp, w0.heap.size ≤ x ∧ x ≠ r ∧ x ∉ S
  rd : RD w (fp ++ r :: S) r m2
  rn : w0.heap.size ≤ r ∧ r ∉ S
  ok1 : DOk N m1
  ok2 : DOk N m2
/-- What a call on one of them leaves. -/
def BSt (w0 w w' : World) (fp S : List Nat) (d r N : Nat) (m1 m2 : DM) : Prop :=
  ∃ fp', BoX w0 w' fp' S d r N m1 m2 ∧ (∀ x ∈ fp', x ∈ fp ∨ w.heap.size ≤ x) ∧ Frm (r :: fp) w w'
theorem RD.low {w : World} {F : List Nat} {d : Nat} {m : DM} (h : RD w F d m) : ∀ k ∈ F, k < w.heap.size := by
  obtain ⟨_, _, _, _, _, h⟩ := h
  exact h.low
section
variable {w0 w w' : World} {fp S : List Nat} {d r N : Nat} {m1 m2 : DM}
theorem BoX.low (h : BoX w0 w fp S d r N m1 m2) : ∀ k ∈ S, k < w.heap.size := fun k hk => h.rd.low k (List.mem_append_right _ (List.mem_cons_of_mem _ hk))
theorem BoX.rlt (h : BoX w0 w fp S d r N m1 m2) : r < w.heap.size := h.rd.low r (List.mem_append_right _ List.mem_cons_self)
theorem BoX.flt (h : BoX w0 w fp S d r N m1 m2) : ∀ k ∈ fp, k < w.heap.size := fun k hk => h.rd.low k (List.mem_append_left _ hk)
theorem BoX.mono {N' : Nat} (h : BoX w0 w fp S d r N m1 m2) (hN : N ≤ N') : BoX w0 w fp S d r N' m1 m2 := ⟨h.pd, h.new, h.rd, h.rn, h.ok1.mono hN, h.ok2.mono hN⟩
/-- Another call: it turns blocks of S alone. -/
theorem BoX.step {fq : List Nat} (h : BoX w0 w fp S d r N m1 m2) (hf : Frm fq w w') (hq : ∀ x ∈ fq, x ∈ S) : BoX w0 w' fp S d r N m1 m2 := by
  refine ⟨h.pd.frm hf (fun k hk hm => (h.new k hk).2.2 (hq k hm)), h.new, ?_, h.rn, h.ok1, h.ok2⟩
  obtain ⟨fv, dv, sv, ov, l, hr⟩ := h.rd
  exact ⟨fv, dv, sv, ov, l, hr.step hf (fun hm => h.rn.2 (hq _ hm)) (fun k hk => .inl (List.mem_append_right _ (List.mem_cons_of_mem _ (hq k hk)))) (fun _ hk => .inl hk) hr.me (fun k hk => Nat.lt_of_lt_of_le (hr.low k hk) hf.size)⟩
theorem BoX.nil (h : BoX w0 w fp S d r N m1 m2) (hf : Frm [] w w') : BoX w0 w' fp S d r N m1 m2 := h.step hf (by simp)
/-- Blocks made by another call. -/
theorem BoX.more {T fq : List Nat} (h : BoX w0 w fp S d r N m1 m2) (hf : Frm fq w w') (hq : ∀ x ∈ fq, x ∈ S) (hT : ∀ t ∈ T, w.heap.size ≤ t ∧ t < w'.heap.size) : BoX w0 w' fp (T ++ S) d r N m1 m2 := by
  have h' := h.step hf hq
  have hrl := h.rlt
  refine ⟨h'.pd, fun x hx => ⟨(h'.new x hx).1, (h'.new x hx).2.1, fun hm => ?_⟩, ?_, ⟨h'.rn.1, fun hm => ?_⟩, h.ok1, h.ok2⟩
  · rcases List.mem_append.1 hm with h9 | h9
    · have := h.flt x hx
      have := (hT x h9).1
      omega
    · exact (h'.new x hx).2.2 h9
  · obtain ⟨fv, dv, sv, ov, l, hr⟩ := h.rd
    refine ⟨fv, dv, sv, ov, l, hr.step hf (fun hm => h.rn.2 (hq _ hm)) (fun k hk => .inl (List.mem_append_right _ (List.mem_cons_of_mem _ (hq k hk)))) (fun k hk => ?_) (List.mem_append_right _ List.mem_cons_self) (fun k hk => ?_)⟩
    · rcases List.mem_append.1 hk with h9 | h9
      · exact .inl (List.mem_append_left _ h9)
      · rcases List.mem_cons.1 h9 with rfl | h9
        · exact .inl (List.mem_append_right _ List.mem_cons_self)
        · rcases List.mem_append.1 h9 with h9 | h9
          · exact .inr (hT k h9).1
          · exact .inl (List.mem_append_right _ (List.mem_cons_of_mem _ h9))
    · rcases List.mem_append.1 hk with h9 | h9
      · exact Nat.lt_of_lt_of_le (h.flt k h9) hf.size
      · rcases List.mem_cons.1 h9 with rfl | h9
        · exact Nat.lt_of_lt_of_le hrl hf.size
        · rcases List.mem_append.1 h9 with h9 | h9
          · exact (hT k h9).2
          · exact Nat.lt_of_lt_of_le (h.low k h9) hf.size
  · rcases List.mem_append.1 hm with h9 | h9
    · have := (hT r h9).1
      omega
    · exact h'.rn.2 h9
theorem BoX.less {S' : List Nat} (h : BoX w0 w fp S d r N m1 m2) (hs : ∀ x ∈ S', x ∈ S) : BoX w0 w fp S' d r N m1 m2 := by
  refine ⟨h.pd, fun x hx => ⟨(h.new x hx).1, (h.new x hx).2.1, fun hm => (h.new x hx).2.2 (hs x hm)⟩, ?_, ⟨h.rn.1, fun hm => h.rn.2 (hs _ hm)⟩, h.ok1, h.ok2⟩
  obtain ⟨fv, dv, sv, ov, l, hr⟩ := h.rd
  have hsub : ∀ k ∈ fp ++ r :: S', k ∈ fp ++ r :: S := fun k hk => by
    rcases List.mem_append.1 hk with h9 | h9
    · exact List.mem_append_left _ h9
    · rcases List.mem_cons.1 h9 with rfl | h9
      · exact List.mem_append_right _ List.mem_cons_self
      · exact List.mem_append_right _ (List.mem_cons_of_mem _ (hs k h9))
  exact ⟨fv, dv, sv, ov, l, hr.step (Frm.refl [] w) (by simp) (by simp) (fun k hk => .inl (hsub k hk)) (List.mem_append_right _ List.mem_cons_self) (fun k hk => hr.low k (hsub k hk))⟩
/-- A call on the program's disk. -/
theorem BoX.prog {f : Nat} {args : Array Value} {E : Ending → Prop} {m' : DM} {N' : Nat} (h : BoX w0 w fp S d r N m1 m2) (hc : Calls Try.prog f args w fun e w' => E e ∧ PDStep w w' d fp m') (hd : DOk N' m') (hN : N ≤ N') :
    Calls Try.prog f args w fun e w' => E e ∧ BSt w0 w w' fp S d r N' m' m2 := by
  refine hc.mono ?_
  rintro e w' ⟨he, fp', hp', hf, hs⟩
  have hrl := h.rlt
  refine ⟨he, fp', ⟨hp', fun x hx => ?_, ?_, h.rn, hd, h.ok2.mono hN⟩, hs, hf.mono (fun x hx => List.mem_cons_of_mem _ hx)⟩
  · rcases hs x hx with h9 | h9
    · exact h.new x h9
    · refine ⟨Nat.le_trans h.rn.1 (by omega), by omega, fun hm => ?_⟩
      have := h.low x hm
      omega
  · obtain ⟨fv, dv, sv, ov, l, hr⟩ := h.rd
    refine ⟨fv, dv, sv, ov, l, hr.step hf (fun hm => (h.new r hm).2.1 rfl) (fun k hk => .inl (List.mem_append_left _ hk)) (fun k hk => ?_) (List.mem_append_right _ List.mem_cons_self) (fun k hk => ?_)⟩
    · rcases List.mem_append.1 hk with h9 | h9
      · rcases hs k h9 with h9 | h9
        · exact .inl (List.mem_append_left _ h9)
        · exact .inr h9
      · exact .inl (List.mem_append_right _ h9)
    · rcases List.mem_append.1 hk with h9 | h9
      · exact hp'.lt k h9
      · exact Nat.lt_of_lt_of_le (hr.low k (List.mem_append_right _ h9)) hf.size
/-- A call on the reference's disk. -/
theorem BoX.refc {f : Nat} {args : Array Value} {E : Ending → Prop} {m' : DM} {N' : Nat} (h : BoX w0 w fp S d r N m1 m2) (hc : Calls Try.prog f args w fun e w' => (E e ∧ RD w' (fp ++ r :: S) r m') ∧ Frm [r] w w') (hd : DOk N' m') (hN : N ≤ N') :
    Calls Try.prog f args w fun e w' => E e ∧ BSt w0 w w' fp S d r N' m1 m' := by
  refine hc.mono ?_
  rintro e w' ⟨⟨he, hr'⟩, hf⟩
  exact ⟨he, fp, ⟨h.pd.frm hf (fun k hk hm => (h.new k hk).2.1 (by rwa [List.mem_singleton] at hm)), h.new, hr', h.rn, h.ok1.mono hN, hd⟩, fun x hx => .inl hx, hf.mono (by simp)⟩
theorem BoX.rdv (h : BoX w0 w fp S d r N m1 m2) : ∃ fv dv sv ov l, RDv w (fp ++ r :: S) r m2 fv dv sv ov l := h.rd
theorem BytesV.row {v : Value} {b : List UInt8} {F : List Nat} (h : BytesV w v b) (hv : ∀ k, v.ownBlock = some k → k ∉ F) : RowV w F v b.length 1 (byt b) := by
  rcases h with ⟨rfl, rfl⟩ | ⟨g, o, cap, rfl, h1, h2, h3, h4⟩
  · exact RowV.nil0 _ _ _
  · refine ⟨by rw [byt_len, Nat.mul_one], _, _, rfl, h1, h2, (fun h => by cases h), fun i u hu => ?_⟩
    obtain ⟨x, hx, rfl⟩ := byt_get hu
    exact ⟨g, o, rfl, hv g (by simp [Value.ownBlock]), h3, h4 i x hx⟩
theorem bo_append1 (h : BoX w0 w fp S d r N m1 m2) (hN : N ≤ 900) {s : Nm} (hs : s.length ≤ maxLen) {b : List UInt8} {v : Value} (hb : BytesV w v b) (hv : ∀ k, v.ownBlock = some k → k ∉ fp) :
    Calls Try.prog 10 #[.pointer (some ⟨d, 0, none⟩), str s, v] w fun e w' => e = .returned (.int .i64 (appendM m1 s b).1) ∧ BSt w0 w w' fp S d r (N + 1) (appendM m1 s b).2 m2 :=
  h.prog (E := fun e => e = .returned (.int .i64 (appendM m1 s b).1)) (append_any h.pd h.ok1 hN hs hb (fun k hk hm => hv k hk hm)) (appendM_ok h.ok1 s b) (Nat.le_succ N)
theorem bo_append2 (h : BoX w0 w fp S d r N m1 m2) (hN : N ≤ 900) {s : Nm} (hs : s.length ≤ maxLen) {b : List UInt8} (hbl : b.length ≤ 1000000000) {v : Value} (hb : RowV w (fp ++ r :: S) v b.length 1 (byt b)) :
    Calls Try.prog 40 #[.pointer (some ⟨r, 0, none⟩), str s, v] w fun e w' => e = .returned (.int .i64 (appendM m2 s b).1) ∧ BSt w0 w w' fp S d r (N + 1) m1 (appendM m2 s b).2 := by
  obtain ⟨fv, dv, sv, ov, l, hr⟩ := h.rdv
  exact h.refc (E := fun e => e = .returned (.int .i64 (appendM m2 s b).1)) (rappend_any hr h.ok2 (by omega) hs hbl hb) (appendM_ok h.ok2 s b) (Nat.le_succ N)
theorem bo_sync1 (h : BoX w0 w fp S d r N m1 m2) {s : Nm} (hs : s.length ≤ maxLen) :
    Calls Try.prog 16 #[.pointer (some ⟨d, 0, none⟩), str s] w fun e w' => e = .returned (.int .i64 (syncM m1 s).1) ∧ BSt w0 w w' fp S d r N (syncM m1 s).2 m2 :=
  h.prog (E := fun e => e = .returned (.int .i64 (syncM m1 s).1)) (sync_any h.pd h.ok1 hs) (syncM_ok h.ok1 s) (Nat.le_refl N)
theorem bo_sync2 (h : BoX w0 w fp S d r N m1 m2) (hN : N ≤ 900) {s : Nm} (hs : s.length ≤ maxLen) :
    Calls Try.prog 41 #[.pointer (some ⟨r, 0, none⟩), str s] w fun e w' => e = .returned (.int .i64 (syncM m2 s).1) ∧ BSt w0 w w' fp S d r N m1 (syncM m2 s).2 := by
  obtain ⟨fv, dv, sv, ov, l, hr⟩ := h.rdv
  exact h.refc (E := fun e => e = .returned (.int .i64 (syncM m2 s).1)) (rsync_any hr h.ok2 (by omega) hs) (syncM_ok h.ok2 s) (Nat.le_refl N)
theorem bo_delete1 (h : BoX w0 w fp S d r N m1 m2) (hN : N ≤ 900) {s : Nm} (hs : s.length ≤ maxLen) :
    Calls Try.prog 11 #[.pointer (some ⟨d, 0, none⟩), str s] w fun e w' => e = .returned (.int .i64 (deleteM m1 s).1) ∧ BSt w0 w w' fp S d r (N + 1) (deleteM m1 s).2 m2 :=
  h.prog (E := fun e => e = .returned (.int .i64 (deleteM m1 s).1)) (delete_any h.pd h.ok1 hN hs) (deleteM_ok h.ok1 s) (Nat.le_succ N)
theorem bo_delete2 (h : BoX w0 w fp S d r N m1 m2) (hN : N ≤ 900) {s : Nm} (hs : s.length ≤ maxLen) :
    Calls Try.prog 43 #[.pointer (some ⟨r, 0, none⟩), str s] w fun e w' => e = .returned (.int .i64 (deleteM m2 s).1) ∧ BSt w0 w w' fp S d r (N + 1) m1 (deleteM m2 s).2 := by
  obtain ⟨fv, dv, sv, ov, l, hr⟩ := h.rdv
  exact h.refc (E := fun e => e = .returned (.int .i64 (deleteM m2 s).1)) (rdelete_any hr h.ok2 (by omega) hs) (deleteM_ok h.ok2 s) (Nat.le_succ N)
theorem bo_rename1 (h : BoX w0 w fp S d r N m1 m2) (hN : N ≤ 900) {s t : Nm} (hs : s.length ≤ maxLen) (ht : t.length ≤ maxLen) :
    Calls Try.prog 19 #[.pointer (some ⟨d, 0, none⟩), str s, str t] w fun e w' => e = .returned (.int .i64 (renameM m1 s t).1) ∧ BSt w0 w w' fp S d r (N + 1) (renameM m1 s t).2 m2 :=
  h.prog (E := fun e => e = .returned (.int .i64 (renameM m1 s t).1)) (rename_any h.pd h.ok1 hN hs ht) (renameM_ok h.ok1 s t) (Nat.le_succ N)
theorem bo_rename2 (h : BoX w0 w fp S d r N m1 m2) (hN : N ≤ 900) {s t : Nm} (hs : s.length ≤ maxLen) (ht : t.length ≤ maxLen) :
    Calls Try.prog 42 #[.pointer (some ⟨r, 0, none⟩), str s, str t] w fun e w' => e = .returned (.int .i64 (renameM m2 s t).1) ∧ BSt w0 w w' fp S d r (N + 1) m1 (renameM m2 s t).2 := by
  obtain ⟨fv, dv, sv, ov, l, hr⟩ := h.rdv
  exact h.refc (E := fun e => e = .returned (.int .i64 (renameM m2 s t).1)) (rrename_any hr h.ok2 (by omega) hs ht) (renameM_ok h.ok2 s t) (Nat.le_succ N)
theorem bo_read1 (h : BoX w0 w fp S d r N m1 m2) {s : Nm} (hs : s.length ≤ maxLen) :
    Calls Try.prog 21 #[.pointer (some ⟨d, 0, none⟩), str s] w fun e w' => ReadEnd w (readM m1 s).1 (readM m1 s).2 w' e ∧ Frm [] w w' := read_any h.pd h.ok1 hs
theorem bo_read2 (h : BoX w0 w fp S d r N m1 m2) {s : Nm} (hs : s.length ≤ maxLen) :
    Calls Try.prog 44 #[.pointer (some ⟨r, 0, none⟩), str s] w fun e w' => ReadEnd w (readM m2 s).1 (readM m2 s).2 w' e ∧ Frm [] w w' := by
  obtain ⟨fv, dv, sv, ov, l, hr⟩ := h.rdv
  exact rread_any hr h.ok2 hs
theorem bo_fail1 (h : BoX w0 w fp S d r N m1 m2) (n : Int) (hn : n ≤ 9223372036854775807) :
    Calls Try.prog 17 #[.pointer (some ⟨d, 0, none⟩), .int .i64 n] w fun e w' => e = .returned (.tuple #[]) ∧ BSt w0 w w' fp S d r N (failM m1 n) m2 :=
  h.prog (E := fun e => e = .returned (.tuple #[])) (fail_any h.pd n) (h.ok1.fail hn) (Nat.le_refl N)
theorem bo_fail2 (h : BoX w0 w fp S d r N m1 m2) (n : Int) (hn : n ≤ 9223372036854775807) :
    Calls Try.prog 45 #[.pointer (some ⟨r, 0, none⟩), .int .i64 n] w fun e w' => e = .returned (.tuple #[]) ∧ BSt w0 w w' fp S d r N m1 (failM m2 n) := by
  obtain ⟨fv, dv, sv, ov, l, hr⟩ := h.rdv
  refine h.refc (E := fun e => e = .returned (.tuple #[])) ((rfail_any hr n).mono ?_) (h.ok2.fail hn) (Nat.le_refl N)
  rintro e w' ⟨⟨he, h9⟩, hf⟩
  exact ⟨⟨he, fv, dv, sv, ov, l, h9⟩, hf⟩
theorem bo_crash1 (h : BoX w0 w fp S d r N m1 m2) (hN : N ≤ 900) {a : Option Addr} {n c : Nat} {keep : List Int} (hk : RdS w.heap.size fp w a n c keep) :
    Calls Try.prog 20 #[.pointer (some ⟨d, 0, none⟩), .slice a n c] w fun e w' => e = .returned (.tuple #[]) ∧ BSt w0 w w' fp S d r N (crashM m1 keep) m2 := by
  obtain ⟨b1, b2, pv, bs, vs, live, hD, he⟩ := h.pd
  have hc := crash_any hD h.ok1 hN (by rw [he]; exact hk)
  rw [he] at hc
  exact h.prog (E := fun e => e = .returned (.tuple #[])) hc (h.ok1.crash keep) (Nat.le_refl N)
theorem bo_crash2 (h : BoX w0 w fp S d r N m1 m2) (hN : N ≤ 900) {a : Option Addr} {n c : Nat} {keep : List Int} (hk : RowV w (fp ++ r :: S) (.slice a n c) n 1 (ints keep)) :
    Calls Try.prog 46 #[.pointer (some ⟨r, 0, none⟩), .slice a n c] w fun e w' => e = .returned (.tuple #[]) ∧ BSt w0 w w' fp S d r N m1 (crashM m2 keep) := by
  obtain ⟨fv, dv, sv, ov, l, hr⟩ := h.rdv
  exact h.refc (E := fun e => e = .returned (.tuple #[])) (rcrash_any hr h.ok2 (by omega) hk) (h.ok2.crash keep) (Nat.le_refl N)
end

/-- The names that the law draws. -/
def names7 : List Nm := [[97], [98], [99], [97], [98], [], [97, 32, 110, 97, 109, 101, 32, 116, 104, 97, 116, 32, 105, 115, 32, 108, 111, 110, 103, 101, 114, 32, 116, 104, 97, 110, 32, 105, 115, 32, 112, 101, 114, 109, 105, 116, 116, 101, 100]]
theorem names7_len : ∀ s ∈ names7, s.length ≤ maxLen := by decide
set_option linter.unusedSimpArgs false in
set_option maxRecDepth 100000 in
set_option maxHeartbeats 2000000 in
theorem name_any {B tb N : Nat} {w : World} (h : TapeOk B w tb N) (hB : B ≤ tb) (hN : N ≤ 1000000) :
    Calls Try.prog 39 #[.pointer (some ⟨tb, 0, none⟩)] w fun e w' => (∃ s ∈ names7, e = .returned (str s)) ∧ TapeOk B w' tb (N + 1) ∧ Frm [tb] w w' := by
  have htl := h.lt
  have f0 : Frm [] w (w.alloc (.cells (names7.map str).toArray 9)) := (Frm.refl [] w).alloc _
  have r0 : RowAt (w.alloc (.cells (names7.map str).toArray 9)) w.heap.size 9 (names7.map str) := RowAt.made _ _ _ _ (by rw [List.length_map]; simp [← List.map_take])
  have hN7 : (names7.map str).toArray = #[str [97], str [98], str [99], str [97], str [98], str [], str [97, 32, 110, 97, 109, 101, 32, 116, 104, 97, 116, 32, 105, 115, 32, 108, 111, 110, 103, 101, 114, 32, 116, 104, 97, 110, 32, 105, 115, 32, 112, 101, 114, 109, 105, 116, 116, 101, 100]] := rfl
  have HT := Lib.hid (h.nil f0)
  have HR := Lib.hid r0
  have HF := Lib.hid f0
  rw [hN7] at HT HR HF
  clear h f0 r0 hN7
  go_enter Try.func39, Try.ntmps39
  go_wp2_with fail
  refine (next_any B tb N 7 _ HT.out hB (by omega) (by decide)).mono ?_
  rintro e1 w1 ⟨⟨v, rfl, hv, -⟩, hT1, hf1⟩
  have hv7 := hv (by decide)
  obtain ⟨j, rfl⟩ : ∃ j : Nat, v = (j : Int) := ⟨v.toNat, by omega⟩
  have hj7 : j < 7 := by omega
  obtain ⟨s, hs⟩ : ∃ s, names7[j]? = some s := ⟨_, List.getElem?_eq_getElem (by exact hj7)⟩
  have hc : w1.cell? ⟨w.heap.size, j, none⟩ = some (str s) := (HR.out.frm hf1 (by simp; omega)).cell (i := j) (by rw [List.getElem?_map, hs]; rfl)
  have i0 : (0 : Int) ≤ (j : Int) := by omega
  have i1 : (j : Int) < 7 := by omega
  have hsm := List.mem_of_getElem? hs
  have HSM := Lib.hid hsm
  have HT1 := Lib.hid hT1
  have HF1 : Hid (Frm [tb] w w1) := Lib.hid ((HF.out.mono (by simp)).trans hf1 (fun x hx => .inl hx))
  clear hv hv7 hT1 hf1 HT HR HF hsm hs hj7
  go_wp2_with fail
  go_ret
  exact ⟨⟨s, HSM.out, rfl⟩, HT1.out, HF1.out⟩

end Go.Proofs.Ytkebdgbjgbcneaa
