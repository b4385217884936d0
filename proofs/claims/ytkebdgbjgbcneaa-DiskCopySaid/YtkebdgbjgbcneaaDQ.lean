/- A disk that the call has made: the contracts of all calls, with what stays beside it. -/
import Derived.Test.YtkebdgbjgbcneaaDP
namespace Go.Proofs.Ytkebdgbjgbcneaa
open Go.RowKit Go.Maps Go.Shelf

/-- The blocks of S are as they were. -/
def Keeps (S : List Nat) (w w' : World) : Prop := ∀ k ∈ S, w'.heap[k]? = w.heap[k]?
theorem Keeps.refl (S : List Nat) (w : World) : Keeps S w w := fun _ _ => rfl
theorem Keeps.trans {S : List Nat} {a b c : World} (h : Keeps S a b) (k : Keeps S b c) : Keeps S a c := fun x hx => (k x hx).trans (h x hx)
theorem BytesV.keep {S : List Nat} {w w' : World} {v : Value} {xs : List UInt8} (h : BytesV w v xs) (hk : Keeps S w w') (hs : w.heap.size ≤ w'.heap.size) (hv : ∀ k, v.ownBlock = some k → k ∈ S) : BytesV w' v xs := by
  rcases h with h | ⟨b, o, cap, rfl, h1, h2, h3, h4⟩
  · exact .inl h
  · refine .inr ⟨b, o, cap, rfl, h1, h2, Nat.lt_of_lt_of_le h3 hs, fun i x hx => ?_⟩
    rw [World.cell?_of_block (hk b (hv b rfl))]
    exact h4 i x hx
/-- The disk at d is m; its blocks are new since w0 and none is in S. -/
structure Own (w0 : World) (S : List Nat) (w : World) (d N : Nat) (m : DM) : Prop where
  pd : ∃ fp, PD w d fp m ∧ ∀ x ∈ fp, w0.heap.size ≤ x ∧ x ∉ S
  frm : Frm [] w0 w
  low : ∀ s ∈ S, s < w.heap.size
  ok : DOk N m

section
variable {w0 w w' : World} {S : List Nat} {d N : Nat} {m : DM}
theorem Own.mono {N' : Nat} (h : Own w0 S w d N m) (hN : N ≤ N') : Own w0 S w d N' m := ⟨h.pd, h.frm, h.low, h.ok.mono hN⟩
theorem Own.step {fq : List Nat} (h : Own w0 S w d N m) (hf : Frm fq w w') (hq : ∀ x ∈ fq, x ∈ S) (h0 : ∀ x ∈ fq, w0.heap.size ≤ x) : Own w0 S w' d N m := by
  obtain ⟨⟨fp, hp, hfp⟩, h1, h2, h3⟩ := h
  exact ⟨⟨fp, hp.frm hf (fun k hk hm => (hfp k hk).2 (hq k hm)), hfp⟩, h1.trans hf (fun x hx => .inr (h0 x hx)), fun s hs => Nat.lt_of_lt_of_le (h2 s hs) hf.size, h3⟩
theorem Own.nil (h : Own w0 S w d N m) (hf : Frm [] w w') : Own w0 S w' d N m := h.step hf (by simp) (by simp)
/-- A block that has just been made is beside the disk. -/
theorem Own.more (h : Own w0 S w d N m) (o : Obj) : Own w0 (w.heap.size :: S) (w.alloc o) d N m := by
  obtain ⟨⟨fp, hp, hfp⟩, h1, h2, h3⟩ := h
  have hf : Frm [] w (w.alloc o) := (Frm.refl [] w).alloc o
  have hs : (w.alloc o).heap.size = w.heap.size + 1 := by simp
  refine ⟨⟨fp, hp.frm hf (by simp), fun x hx => ⟨(hfp x hx).1, fun hm => ?_⟩⟩, h1.trans hf (by simp), fun s hs' => ?_, h3⟩
  · rcases List.mem_cons.1 hm with h9 | h9
    · have := hp.lt x hx
      omega
    · exact (hfp x hx).2 h9
  · rcases List.mem_cons.1 hs' with h9 | h9
    · omega
    · have := h2 s h9
      omega
theorem Own.less {S' : List Nat} (h : Own w0 S w d N m) (hs : ∀ x ∈ S', x ∈ S) : Own w0 S' w d N m := by
  obtain ⟨⟨fp, hp, hfp⟩, h1, h2, h3⟩ := h
  exact ⟨⟨fp, hp, fun x hx => ⟨(hfp x hx).1, fun hm => (hfp x hx).2 (hs x hm)⟩⟩, h1, fun s h9 => h2 s (hs s h9), h3⟩
theorem Own.of {f : Nat} {args : Array Value} {E : Ending → World → Prop} {m' : DM} {N' : Nat} (h : Own w0 S w d N m) (hc : ∀ fp, PD w d fp m → (∀ x ∈ fp, x ∉ S) → Calls Try.prog f args w fun e w' => E e w' ∧ PDStep w w' d fp m') (hd : DOk N' m') :
    Calls Try.prog f args w fun e w' => E e w' ∧ Own w0 S w' d N' m' ∧ Keeps S w w' ∧ w.heap.size ≤ w'.heap.size := by
  obtain ⟨⟨fp, hp, hfp⟩, h1, h2, h3⟩ := h
  refine (hc fp hp (fun x hx => (hfp x hx).2)).mono ?_
  rintro e w' ⟨he, fp', hp', hf, hs⟩
  refine ⟨he, ⟨⟨fp', hp', fun x hx => ?_⟩, h1.trans hf (fun x hx => .inr (hfp x hx).1), fun s h9 => Nat.lt_of_lt_of_le (h2 s h9) hf.size, hd⟩, fun k hk => hf.block k (h2 k hk) (fun hm => (hfp k hm).2 hk), hf.size⟩
  rcases hs x hx with h9 | h9
  · exact hfp x h9
  · exact ⟨Nat.le_trans h1.size h9, fun hm => by have := h2 x hm; omega⟩
theorem own_new (cap : Nat) (hc : cap ≤ 4194304) (hS : ∀ s ∈ S, s < w.heap.size) (hf : Frm [] w0 w) :
    Calls Try.prog 9 #[.int .i64 (cap : Int)] w fun e w' => ∃ d, e = .returned (.tuple #[.pointer (some ⟨d, 0, none⟩), .int .i64 0]) ∧ Own w0 S w' d 0 (emptyM cap) ∧ Keeps S w w' ∧ w.heap.size ≤ w'.heap.size := by
  refine (new_any cap w hc).mono ?_
  rintro e w' ⟨d, fp, rfl, hp, hf', hfp⟩
  refine ⟨d, rfl, ⟨⟨fp, hp, fun x hx => ⟨Nat.le_trans hf.size (hfp x hx), fun hm => ?_⟩⟩, hf.trans hf' (by simp), fun s hs => Nat.lt_of_lt_of_le (hS s hs) hf'.size, DOk.empty hc⟩, fun k hk => hf'.block k (hS k hk) (by simp), hf'.size⟩
  have := hfp x hx
  have := hS x hm
  omega
theorem own_append (h : Own w0 S w d N m) (hN : N ≤ 900) {s : Nm} (hs : s.length ≤ maxLen) {b : List UInt8} {v : Value} (hb : BytesV w v b) (hv : ∀ k, v.ownBlock = some k → k ∈ S) :
    Calls Try.prog 10 #[.pointer (some ⟨d, 0, none⟩), str s, v] w fun e w' => e = .returned (.int .i64 (appendM m s b).1) ∧ Own w0 S w' d (N + 1) (appendM m s b).2 ∧ Keeps S w w' ∧ w.heap.size ≤ w'.heap.size :=
  h.of (E := fun e _ => e = .returned (.int .i64 (appendM m s b).1)) (fun _fp hp hS => append_any hp h.ok hN hs hb (fun k hk hm => hS k hm (hv k hk))) (appendM_ok h.ok s b)
theorem syncM_ok (ho : DOk N m) (s : Nm) : DOk N (syncM m s).2 := by
  rw [syncM]
  split
  · rename_i hz
    obtain ⟨_, _, i, hfd⟩ := missM_zero hz
    split
    · exact ho.write
    · rw [hfd]
      exact ho.write.seal (by rw [writeM_files]; exact ho.find hfd)
  · exact ho
theorem own_sync (h : Own w0 S w d N m) {s : Nm} (hs : s.length ≤ maxLen) :
    Calls Try.prog 16 #[.pointer (some ⟨d, 0, none⟩), str s] w fun e w' => e = .returned (.int .i64 (syncM m s).1) ∧ Own w0 S w' d N (syncM m s).2 ∧ Keeps S w w' ∧ w.heap.size ≤ w'.heap.size :=
  h.of (E := fun e _ => e = .returned (.int .i64 (syncM m s).1)) (fun _fp hp _ => sync_any hp h.ok hs) (syncM_ok h.ok s)
theorem deleteM_ok (ho : DOk N m) (s : Nm) : DOk (N + 1) (deleteM m s).2 := by
  rw [deleteM]
  split
  · rename_i hz
    split
    · exact ho.write.mono (Nat.le_succ _)
    · exact ho.write.delete (missM_zero hz).2.1
  · exact ho.mono (Nat.le_succ _)
theorem own_delete (h : Own w0 S w d N m) (hN : N ≤ 900) {s : Nm} (hs : s.length ≤ maxLen) :
    Calls Try.prog 11 #[.pointer (some ⟨d, 0, none⟩), str s] w fun e w' => e = .returned (.int .i64 (deleteM m s).1) ∧ Own w0 S w' d (N + 1) (deleteM m s).2 ∧ Keeps S w w' ∧ w.heap.size ≤ w'.heap.size :=
  h.of (E := fun e _ => e = .returned (.int .i64 (deleteM m s).1)) (fun _fp hp _ => delete_any hp h.ok hN hs) (deleteM_ok h.ok s)
theorem renameM_ok (ho : DOk N m) (s t : Nm) : DOk (N + 1) (renameM m s t).2 := by
  rw [renameM]
  split
  · rename_i hz
    obtain ⟨_, hg, ht, i, hfd⟩ := missRM_zero hz
    split
    · exact ho.write.mono (Nat.le_succ _)
    · rw [hfd]
      exact ho.write.rename hg ht (by rw [writeM_dir]; exact hfd)
  · exact ho.mono (Nat.le_succ _)
theorem own_rename (h : Own w0 S w d N m) (hN : N ≤ 900) {s t : Nm} (hs : s.length ≤ maxLen) (ht : t.length ≤ maxLen) :
    Calls Try.prog 19 #[.pointer (some ⟨d, 0, none⟩), str s, str t] w fun e w' => e = .returned (.int .i64 (renameM m s t).1) ∧ Own w0 S w' d (N + 1) (renameM m s t).2 ∧ Keeps S w w' ∧ w.heap.size ≤ w'.heap.size :=
  h.of (E := fun e _ => e = .returned (.int .i64 (renameM m s t).1)) (fun _fp hp _ => rename_any hp h.ok hN hs ht) (renameM_ok h.ok s t)
theorem own_fail (h : Own w0 S w d N m) (n : Int) (hn : n ≤ 9223372036854775807) :
    Calls Try.prog 17 #[.pointer (some ⟨d, 0, none⟩), .int .i64 n] w fun e w' => e = .returned (.tuple #[]) ∧ Own w0 S w' d N (failM m n) ∧ Keeps S w w' ∧ w.heap.size ≤ w'.heap.size :=
  h.of (E := fun e _ => e = .returned (.tuple #[])) (fun _fp hp _ => fail_any hp n) (h.ok.fail hn)
/-- A row of integers that is beside the disk: in a block of S or older than w0. -/
def IntsV (w0 : World) (S : List Nat) (w : World) (a : Option Addr) (n c : Nat) (xs : List Int) : Prop :=
  xs.length = n ∧ n ≤ c ∧ c ≤ maxLen ∧ ∀ (i : Nat) (x : Int), xs[i]? = some x → ∃ b o, a = some ⟨b, o, none⟩ ∧ (b ∈ S ∨ b < w0.heap.size) ∧ w.cell? ⟨b, o + i, none⟩ = some (.int .i64 x)
theorem own_crash (h : Own w0 S w d N m) (hN : N ≤ 900) {a : Option Addr} {n c : Nat} {keep : List Int} (hk : IntsV w0 S w a n c keep) :
    Calls Try.prog 20 #[.pointer (some ⟨d, 0, none⟩), .slice a n c] w fun e w' => e = .returned (.tuple #[]) ∧ Own w0 S w' d N (crashM m keep) ∧ Keeps S w w' ∧ w.heap.size ≤ w'.heap.size := by
  obtain ⟨⟨fp, hp, hfp⟩, h1, h2, h3⟩ := h
  obtain ⟨k1, k2, k3, k4⟩ := hk
  have hrd : RdS w.heap.size fp w a n c keep := ⟨k1, k2, k3, fun i x hx => by
    obtain ⟨b, o, e, hb, hc⟩ := k4 i x hx
    refine ⟨b, o, e, ?_, fun hm => ?_, hc⟩
    · rcases hb with hb | hb
      · exact h2 b hb
      · exact Nat.lt_of_lt_of_le hb h1.size
    · rcases hb with hb | hb
      · exact (hfp b hm).2 hb
      · have := (hfp b hm).1
        omega⟩
  obtain ⟨b1, b2, pv, bs, vs, live, hD, rfl⟩ := hp
  refine (crash_any hD h3 hN hrd).mono ?_
  rintro e w' ⟨he, fp', hp', hf, hs⟩
  refine ⟨he, ⟨⟨fp', hp', fun x hx => ?_⟩, h1.trans hf (fun x hx => .inr (hfp x hx).1), fun s h9 => Nat.lt_of_lt_of_le (h2 s h9) hf.size, h3.crash keep⟩, fun k hk => hf.block k (h2 k hk) (fun hm => (hfp k hm).2 hk), hf.size⟩
  rcases hs x hx with h9 | h9
  · exact hfp x h9
  · exact ⟨Nat.le_trans h1.size h9, fun hm => by have := h2 x hm; omega⟩
theorem own_read (h : Own w0 S w d N m) {s : Nm} (hs : s.length ≤ maxLen) :
    Calls Try.prog 21 #[.pointer (some ⟨d, 0, none⟩), str s] w fun e w' => ReadEnd w (readM m s).1 (readM m s).2 w' e ∧ Frm [] w w' := by
  obtain ⟨⟨fp, hp, hfp⟩, h1, h2, h3⟩ := h
  exact read_any hp h3 hs
theorem own_down (h : Own w0 S w d N m) : Calls Try.prog 22 #[.pointer (some ⟨d, 0, none⟩)] w fun e w' => e = .returned (.bool m.off) ∧ w' = w := by
  obtain ⟨⟨fp, hp, hfp⟩, h1, h2, h3⟩ := h
  exact down_any hp
theorem own_writes (h : Own w0 S w d N m) : Calls Try.prog 26 #[.pointer (some ⟨d, 0, none⟩)] w fun e w' => e = .returned (.int .i64 m.count) ∧ w' = w := by
  obtain ⟨⟨fp, hp, hfp⟩, h1, h2, h3⟩ := h
  exact writes_any hp
theorem own_names (h : Own w0 S w d N m) : Calls Try.prog 12 #[.pointer (some ⟨d, 0, none⟩)] w fun e w' => NamesEnd w.heap.size (namesM m) w' e ∧ Frm [] w w' := by
  obtain ⟨⟨fp, ⟨b1, b2, pv, bs, vs, live, hD, rfl⟩, hfp⟩, h1, h2, h3⟩ := h
  exact names_any hD.hd hD.m1 h3.dirOk
theorem own_used (h : Own w0 S w d N m) : Calls Try.prog 30 #[.pointer (some ⟨d, 0, none⟩)] w fun e w' => e = .returned (.int .i64 (usedD m.files m.dir : Int)) ∧ Frm [] w w' := by
  obtain ⟨⟨fp, ⟨b1, b2, pv, bs, vs, live, hD, rfl⟩, hfp⟩, h1, h2, h3⟩ := h
  exact used_any hD.hd hD.m1 hD.files hD.live.dir h3
end
theorem bytes_made (w : World) (xs : List UInt8) (hl : xs.length ≤ 1000) : BytesV (w.alloc (.cells (byt xs).toArray 5)) (.slice (some ⟨w.heap.size, 0, none⟩) xs.length xs.length) xs :=
  .inr ⟨w.heap.size, 0, xs.length, rfl, Nat.le_refl _, by unfold maxLen; omega, by simp, fun i x hx => by
    rw [Nat.zero_add]
    exact (RowAt.made w 5 (byt xs) (byt xs).toArray (by simp)).cell (byt_of hx)⟩

end Go.Proofs.Ytkebdgbjgbcneaa
