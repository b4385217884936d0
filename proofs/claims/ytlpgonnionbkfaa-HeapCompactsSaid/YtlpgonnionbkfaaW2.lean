/- Contracts of slices.Clone and of the functions about references. -/
import Derived.Test.YtlpgonnionbkfaaLib
import Derived.Test.YtlpgonnionbkfaaRows
import Derived.WalkSpells
import Derived.WalkLawsBesides
import Derived.Deep.LoopGhost
namespace Go.Proofs.Ytlpgonnionbkfaa
open Go.RowKit

def ints (xs : List Int) : List Value := xs.map (Value.int .i64)

def IntsAt (w : World) (v : Value) (xs : List Int) : Prop :=
  (v = .slice none 0 0 ∧ xs = []) ∨ ∃ b o cap, v = .slice (some ⟨b, o, none⟩) xs.length cap ∧ xs.length ≤ cap ∧ cap ≤ maxLen ∧ b < w.heap.size ∧
    ∀ i x, xs[i]? = some x → w.cell? ⟨b, o + i, none⟩ = some (.int .i64 x)

theorem IntsAt.frm {fp : List Nat} {w w' : World} {v : Value} {xs : List Int} (h : IntsAt w v xs) (hf : Frm fp w w') (hn : ∀ k, v.ownBlock = some k → k ∉ fp) : IntsAt w' v xs := by
  rcases h with h | ⟨b, o, cap, rfl, h1, h2, h3, h4⟩
  · exact .inl h
  · exact .inr ⟨b, o, cap, rfl, h1, h2, Nat.lt_of_lt_of_le h3 hf.size, fun i x hx => hf.cell (h4 i x hx) (hn b rfl)⟩

theorem ints_of_owns {w : World} {v : Value} {xs : List Int} {B : Nat} (h : w.ownsRow B 3 1 v xs.length (ints xs)) : IntsAt w v xs := by
  rcases h.2 with ⟨rfl, h0⟩ | ⟨g, cap, cur, rfl, h0, hgg, h1, h2, h3, h4⟩
  · exact .inl ⟨rfl, List.eq_nil_of_length_eq_zero h0⟩
  · refine .inr ⟨g, 0, cap, rfl, h1, h2, (Array.getElem?_eq_some_iff.1 hgg).1, fun i x hx => ?_⟩
    rw [Nat.zero_add]
    exact RowAt.cell (xs := ints xs) ⟨cur, hgg, by simpa [ints] using h4⟩ (by simp [ints, hx])

theorem owns_base {w : World} {B : Nat} {e : TypeId} {size : Nat} {v : Value} {n : Nat} {xs : List Value} (h : w.ownsRow B e size v n xs) : w.ownsRow 0 e size v n xs := by
  refine ⟨h.1, ?_⟩
  rcases h.2 with hn | ⟨g, cap, cur, rfl, h0, rest⟩
  · exact .inl hn
  · exact .inr ⟨g, cap, cur, rfl, Nat.zero_le _, rest⟩

theorem IntsAt.shape {w : World} {v : Value} {xs : List Int} (h : IntsAt w v xs) : ∃ a cap, v = .slice a xs.length cap ∧ (xs.length : Int) ≤ 9223372036854775807 := by
  rcases h with ⟨rfl, rfl⟩ | ⟨b, o, cap, rfl, h1, h2, _⟩
  · exact ⟨none, 0, rfl, by decide⟩
  · exact ⟨_, cap, rfl, by simp [maxLen] at h2; omega⟩

theorem Try.info3 : (Try.prog.info? 3).map (fun i => (i.zero, i.size, i.bytes)) = some (some (.int .i64 0), 1, 8) := by kernel_rfl

/-- slices.Clone at []int -/
theorem clone_any (v : Value) (xs : List Int) (w : World) (h : IntsAt w v xs) (hl : xs.length ≤ 1000000000000) :
    Calls Try.prog 41 #[v] w fun e w' => ∃ a cap, e = .returned (.slice a xs.length cap) ∧ w'.ownsRow w.heap.size 3 1 (.slice a xs.length cap) xs.length (ints xs) ∧ Frm [] w w' := by
  obtain ⟨i0, hi, hz0, hz1, hz2⟩ := info_parts Try.info3
  rcases h with ⟨rfl, rfl⟩ | ⟨b, o, cap, rfl, h1, h2, h3, h4⟩
  · have e1 := @Lib.run_eql_slice_nil Try.prog
    go_enter Try.func41, Try.ntmps41
    go_wp2
    go_ret
    exact ⟨none, 0, rfl, World.ownsRow_nil _ _ _ _, Frm.refl _ _⟩
  · have e1 := @Lib.run_eql_slice_nil Try.prog
    have H4 := Lib.hid h4
    clear h4
    go_enter Try.func41, Try.ntmps41
    go_wp2_with (at_builtin; refine wpList_append_own _ rfl (.tmp 5) (.tmp 6) 30 rfl w.heap.size 3 i0 (.int .i64 0) 1 8 Try.underlying30 hi hz0 hz1 hz2 rfl (by decide) _ 0 [] rfl ?h1 ⟨b, o, none⟩ xs.length cap (ints xs) rfl ?h2 ?h3 ?h4 ?h5 ?h6 ?h7 ?_)
    case h1 => exact World.ownsRow_made w #[] 0 (Nat.le_refl _) (by decide) rfl
    case h2 => simp [ints]
    case h3 =>
      intro j u hu
      simp only [ints, List.getElem?_map, Option.map_eq_some_iff] at hu
      obtain ⟨x, hx, rfl⟩ := hu
      rw [Addr.add_lit, World.cell?_alloc_lt _ _ _ h3]
      exact H4.out j x hx
    case h4 => intro u hu; simp only [ints, List.mem_map] at hu; obtain ⟨x, _, rfl⟩ := hu; rfl
    case h5 => unfold maxLen; omega
    case h6 => omega
    case h7 => simp
    intro v' w1 hown hgr _
    go_wp2
    go_ret
    obtain ⟨a, cap', rfl, _⟩ := owns_shape (owns_base hown)
    exact ⟨a, cap', rfl, hown, ((Frm.refl [] w).alloc _).grown hgr (by intro k hk; simp [Value.ownBlock] at hk; omega)⟩

/-- heap.clone -/
theorem cloneCell_any (k n : Int) (v : Value) (xs : List Int) (w : World) (h : IntsAt w v xs) (hl : xs.length ≤ 1000000000000) :
    Calls Try.prog 26 #[.agg #[.int .i64 k, .int .i64 n, v]] w fun e w' => ∃ a cap, e = .returned (.agg #[.int .i64 k, .int .i64 n, .slice a xs.length cap]) ∧
      w'.ownsRow w.heap.size 3 1 (.slice a xs.length cap) xs.length (ints xs) ∧ Frm [] w w' := by
  obtain ⟨a, cap, rfl, hlen⟩ := h.shape
  have f0 : Frm [] w ((w.alloc (.cells #[.int .i64 k, .int .i64 n, .slice a xs.length cap] 32)).alloc (.cells #[.int .i64 0, .int .i64 0, .slice none 0 0] 32)) := ((Frm.refl [] w).alloc _).alloc _
  have h' := h.frm f0 (by simp)
  have r0 := (RowAt.made w 32 [.int .i64 k, .int .i64 n, .slice a xs.length cap] #[.int .i64 k, .int .i64 n, .slice a xs.length cap] rfl).alloc (.cells #[.int .i64 0, .int .i64 0, .slice none 0 0] 32)
  have r1 := RowAt.made (w.alloc (.cells #[.int .i64 k, .int .i64 n, .slice a xs.length cap] 32)) 32 [.int .i64 0, .int .i64 0, .slice none 0 0] #[.int .i64 0, .int .i64 0, .slice none 0 0] rfl
  rw [show (w.alloc (.cells #[.int .i64 k, .int .i64 n, .slice a xs.length cap] 32)).heap.size = w.heap.size + 1 from by simp] at r1
  go_enter Try.func26, Try.ntmps26
  go_wp2_with fail
  refine (clone_any _ xs _ h' hl).mono ?_
  rintro e w1 ⟨a', cap', rfl, hown, hf⟩
  have s0 := r0.frm hf (by simp)
  have s1 := r1.frm hf (by simp)
  have c0 := s0.cell (i := 0) rfl
  have c1 := s0.cell (i := 1) rfl
  have c2 := s0.cell (i := 2) rfl
  have d0 := s1.cell (i := 0) rfl
  have d1 := s1.cell (i := 1) rfl
  have d2 := s1.cell (i := 2) rfl
  have z0 := s0.frozen 2
  have y0 := s1.frozen 0
  have y1 := s1.frozen 1
  have y2 := s1.frozen 2
  go_wp2
  refine bodyPost_ret (v := .agg #[.int .i64 k, .int .i64 n, .slice a' xs.length cap']) (by simp [results, Try.results26, go_sem, d0, d1, d2]) rfl ⟨a', cap', rfl, ?_, ?_⟩
  · exact ownsB_mono (ownsB_other (ownsB_other (ownsB_other (ownsB_other hown (by simp; omega) _) (by simp) _) (by simp) _) (by simp) _) (by simp; omega)
  · exact ((((f0.trans hf (by simp)).setCell (.inr (by simp)) _).setCell (.inr (by simp)) _).setCell (.inr (by simp)) _).setCell (.inr (by simp)) _

end Go.Proofs.Ytlpgonnionbkfaa
