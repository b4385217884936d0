/- The tape of numbers: contracts of Event, Visible; and Insert of the reference. -/
import Derived.Test.YtknfdpkfomlckaaG6
namespace Go.Proofs.Ytknfdpkfomlckaa
open Go.RowKit

def events : List Int := [0, 0, 2, 3, 4, 2, 3, 1, 2, 5, 1025]
theorem events_ok (k : Nat) (h : k < 11) : ∃ e : Int, events[k]? = some e ∧ 0 ≤ e ∧ e ≤ 1025 := by
  have hl : events.length = 11 := rfl
  refine ⟨events[k], List.getElem?_eq_getElem (by omega), ?_⟩
  have : ∀ x ∈ events, 0 ≤ x ∧ x ≤ 1025 := by decide
  exact this _ (List.getElem_mem _)

set_option maxRecDepth 100000 in
set_option maxHeartbeats 1000000 in
theorem event_any (B tb N : Nat) (w : World) (h : TapeOk B w tb N) (hB : B ≤ tb) (hN : N ≤ 1000000000) :
    Calls Try.prog 35 #[.pointer (some ⟨tb, 0, none⟩)] w fun e w' => (∃ v : Int, e = .returned (.int .i64 v) ∧ 0 ≤ v ∧ v ≤ 1025) ∧ TapeOk B w' tb (N + 1) ∧ Frm [tb] w w' := by
  have f0 : Frm [] w (w.alloc (.cells (ints events).toArray 3)) := (Frm.refl [] w).alloc _
  have hr := RowAt.made w 3 (ints events) (ints events).toArray (by simp)
  have hn := next_any B tb N 11 _ (h.nil f0) hB hN (by decide)
  have htl : tb < w.heap.size := h.lt
  have HR := Lib.hid hr
  clear hr h
  simp only [ints, events, List.map_cons, List.map_nil] at hn f0
  go_enter Try.func35, Try.ntmps35
  go_wp2_with fail
  refine hn.mono ?_
  rintro e w1 ⟨⟨v, rfl, hv, _⟩, hT, hf⟩
  obtain ⟨k, rfl⟩ := Int.eq_ofNat_of_zero_le (hv (by decide)).1
  have hk := (hv (by decide)).2
  obtain ⟨x, hx, hx1, hx2⟩ := events_ok k (by omega)
  have hc := (HR.out.frm hf (by simp; omega)).cell (i := k) (v := .int .i64 x) (by simp [ints, hx])
  clear hn hv
  have F1 := (f0.mono (fq := [tb]) (by simp)).trans hf (by simp)
  go_wp2
  go_ret
  exact ⟨⟨x, rfl, hx1, hx2⟩, hT, F1⟩

set_option maxHeartbeats 1000000 in
theorem visible_any (B tb N : Nat) (w : World) (h : TapeOk B w tb N) (hB : B ≤ tb) (hN : N ≤ 1000000000) :
    Calls Try.prog 36 #[.pointer (some ⟨tb, 0, none⟩)] w fun e w' => (∃ v : Int, e = .returned (.int .i64 v) ∧ 2 ≤ v ∧ v ≤ 5) ∧ TapeOk B w' tb (N + 1) ∧ Frm [tb] w w' := by
  have hn := next_any B tb N 4 _ h hB hN (by decide)
  go_enter Try.func36, Try.ntmps36
  go_wp2_with fail
  refine hn.mono ?_
  rintro e w1 ⟨⟨v, rfl, hv, _⟩, hT, hf⟩
  obtain ⟨h1, h2⟩ := hv (by decide)
  clear hn hv h
  go_wp2
  go_ret
  exact ⟨⟨_, rfl, by omega, by omega⟩, hT, hf⟩

end Go.Proofs.Ytknfdpkfomlckaa
