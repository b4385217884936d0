/- Contract of Insert of the reference at nil; both together. -/
import Derived.Test.YtknfdpkfomlckaaG9
import Derived.Laws.AppendOwnNone
namespace Go.Proofs.Ytknfdpkfomlckaa
open Go.RowKit

/-- append of nil to a row that the call has made; the walk stands still behind it. -/
theorem wpl_app_nil {w : World} {ops : Array Oper} {rest : List Oper} {o : Oper} {a : Act} {Q : Exit → Act → World → Prop} (hgd : o.guard = none) (s x : Operand)
    (ho : o.op = .call { callee := .builtin .append, args := #[s, x], argTypes := #[49, 49] })
    (B n : Nat) (v : Value) (row : List Arc) (hs : a.eval s = v) (hown : OwnR B w v row) (hn : row.length = n) (hx : a.eval x = .slice none 0 0)
    (h : ∀ a' cp w', OwnR B w' (.slice a' n cp) row → (∀ w0 : World, w0.heap.size ≤ B → Frm [] w0 w → Frm [] w0 w') → wpList Try.prog ops Q rest (a.put o.dst (.slice a' n cp)) w') : wpList Try.prog ops Q (o :: rest) a w := by
  obtain ⟨i0, hi, hz0, hz1, hz2⟩ := info_parts infoArc
  subst hn
  obtain ⟨a', cp, rfl, _⟩ := owns_shape (ownsB_mono hown (Nat.zero_le B))
  exact wpList_append_own_none hgd s x 49 ho B 51 i0 2 Try.underlying49 hi _ row.length (flatA row) hs hown hx (h a' cp w hown (fun _ _ hF => hF))

theorem own_empty2 (w : World) (B k : Nat) (hk : w.heap.size = k) (hB : B ≤ k) : OwnR B (w.alloc (.cells #[] 51)) (.slice (some ⟨k, 0, none⟩) 0 0) [] := by
  subst hk
  exact own_empty w B hB

set_option maxRecDepth 100000 in
set_option maxHeartbeats 2000000 in
theorem insert_nil (B : Nat) (x y : Int) (w : World) (hB0 : B ≤ w.heap.size) :
    Calls Try.prog 37 #[.slice none 0 0, .agg #[.int .i64 x, .int .i64 y]] w fun e w' => ∃ a cp, e = .returned (.slice a 1 cp) ∧ OwnR B w' (.slice a 1 cp) [(x, y)] ∧ Frm [] w w' := by
  obtain ⟨i0, hi, hz0, hz1, hz2⟩ := info_parts infoArc
  have f0 : Frm [] w (w.alloc (.cells #[.int .i64 x, .int .i64 y] 51)) := (Frm.refl [] w).alloc _
  have hbox := RowAt.made w 51 [.int .i64 x, .int .i64 y] #[.int .i64 x, .int .i64 y] rfl
  have HBOX := Lib.hid hbox
  clear hbox
  have hsz0 : (w.alloc (.cells #[.int .i64 x, .int .i64 y] 51)).heap.size = w.heap.size + 1 := by simp
  have hsz : (w.alloc (.cells #[.int .i64 x, .int .i64 y] 51)).heap.size ≤ w.heap.size + 1 := by simp
  go_enter Try.func37, Try.ntmps37
  go_wp2_with fail
  refine wp_loop_rounds 1 ?_
  rw [rounds_succ]
  go_wp2_with fail
  go_quiet (fail)
  go_wp2_with fail
  go_quiet (fail)
  go_wp2_with (first | (at_builtin; refine wpl_app_nil rfl (.tmp 34) (.tmp 37) rfl (w.heap.size + 1) 0 _ [] rfl (own_empty2 _ _ (w.heap.size + 1) (by exact hsz0) (Nat.le_refl _)) rfl rfl ?_) | (at_builtin; fail))
  intro a6 cp6 w6 hown6 hf6
  have G6 := hf6 (w.alloc (.cells #[.int .i64 x, .int .i64 y] 51)) hsz (((Frm.refl [] _).drewN _).alloc _)
  have F6 := f0.trans G6 (by simp)
  have p0 := (HBOX.out.frm G6 (by simp)).cell (i := 0) rfl
  have p1 := (HBOX.out.frm G6 (by simp)).cell (i := 1) rfl
  clear hf6
  go_wp2_with (first | (at_builtin; refine wpl_app_arc rfl (.tmp 39) (.tmp 41) rfl (w.heap.size + 1) 0 1 (.slice a6 0 cp6) [] rfl (hown6.alloc _) rfl ⟨w6.heap.size, 0, none⟩ 1 1 [(x, y)] rfl rfl (cells_new w6 [.int .i64 x, .int .i64 y] _) rfl (by omega) (by have := G6.size; simp at this ⊢; omega) ?_) | (at_builtin; fail))
  intro a7 cp7 w7 hown7 hf7
  have G7 := hf7 (w.alloc (.cells #[.int .i64 x, .int .i64 y] 51)) hsz (G6.alloc _)
  have F7 := f0.trans G7 (by simp)
  clear hf7 p0 p1 hown6
  go_wp2_with (first | (at_builtin; refine wpl_app_nil rfl (.tmp 43) (.tmp 46) rfl (w.heap.size + 1) 1 (.slice a7 1 cp7) [(x, y)] rfl hown7 rfl rfl ?_) | (at_builtin; fail))
  intro a8 cp8 w8 hown8 hf8
  have F8 := f0.trans (hf8 (w.alloc (.cells #[.int .i64 x, .int .i64 y] 51)) hsz G7) (by simp)
  clear hf8 hown7
  go_wp2_with fail
  go_ret
  exact ⟨a8, cp8, rfl, ownsB_mono hown8 (by omega), F8⟩

/-- Insert: any row that the call has made. -/
theorem insert_any (B : Nat) (a : Option Addr) (cap : Nat) (row : List Arc) (x y : Int) (w : World) (hB0 : B ≤ w.heap.size) (h : OwnR B w (.slice a row.length cap) row) (hz : row = [] → a = none ∧ cap = 0) (hl : row.length ≤ 1000000) :
    Calls Try.prog 37 #[.slice a row.length cap, .agg #[.int .i64 x, .int .i64 y]] w fun e w' => ∃ a cp, e = .returned (.slice a (insA row (x, y)).length cp) ∧ OwnR B w' (.slice a (insA row (x, y)).length cp) (insA row (x, y)) ∧ Frm [] w w' := by
  by_cases h0 : row = []
  · obtain ⟨rfl, rfl⟩ := hz h0
    subst h0
    exact insert_nil B x y w hB0
  · have hpos : 0 < row.length := List.length_pos_iff.2 h0
    obtain ⟨ad, cp, hs⟩ : ∃ g cp, (Value.slice a row.length cap) = .slice (some (⟨g, 0, none⟩ : Addr)) row.length cp := by
      rcases h.2 with h1 | ⟨g, cp, cur, h1, _⟩
      · have := h1.1
        simp at this
        omega
      · exact ⟨g, cp, h1⟩
    simp only [Value.slice.injEq, true_and] at hs
    obtain ⟨rfl, _⟩ := hs
    exact insert_some B ad cap row x y w hB0 h hl hpos

theorem insA_ne (row : List Arc) (x : Arc) : insA row x ≠ [] := by
  unfold insA
  split
  · rintro rfl
    simp [insAt] at *
  · simp

end Go.Proofs.Ytknfdpkfomlckaa
