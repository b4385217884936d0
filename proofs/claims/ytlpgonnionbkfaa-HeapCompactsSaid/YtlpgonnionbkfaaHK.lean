/- Contract of Reach of the program's heap. -/
import Derived.Test.YtlpgonnionbkfaaHJ
namespace Go.Proofs.Ytlpgonnionbkfaa
open Go.RowKit

def RchEnd (B : Nat) (xs : List Int) (w' : World) (e : Ending) : Prop :=
  ∃ (a : Option Addr) (cap : Nat), e = .returned (.slice a xs.length cap) ∧ IntsAt w' (.slice a xs.length cap) xs ∧ ∀ k, (Value.slice a xs.length cap).ownBlock = some k → B ≤ k

theorem nb_of {B1 B2 : Nat} {w : World} {a1 a2 : Option Addr} {n1 n2 c1 c2 : Nat} {x1 x2 : List Value} {e1 e2 s1 s2 : Nat} (h1 : w.ownsRow B1 e1 s1 (.slice a1 n1 c1) n1 x1) (h2 : w.ownsRow B2 e2 s2 (.slice a2 n2 c2) n2 x2) (hne : e1 ≠ e2) : ∀ k, (Value.slice a1 n1 c1).ownBlock = some k → (Value.slice a2 n2 c2).ownBlock ≠ some k :=
  fun _ hk hk2 => hne (own_ty h1 h2 hk hk2)

theorem own_clip {w : World} {B n c : Nat} {a : Option Addr} {xs : List Int} (h : w.ownsRow B 3 1 (.slice a n c) n (ints xs)) (hn : xs.length = n) : n ≤ c ∧ c ≤ maxLen ∧ IntsAt w (.slice a n n) xs ∧ ∀ k, (Value.slice a n n).ownBlock = some k → B ≤ k := by
  rcases h.2 with ⟨h0, h1⟩ | ⟨g, cp, cur, h0, hb, hg, h1, h2, h3, h4⟩
  · simp only [Value.slice.injEq] at h0
    obtain ⟨rfl, rfl, rfl⟩ := h0
    obtain rfl : xs = [] := List.eq_nil_of_length_eq_zero hn
    exact ⟨Nat.le_refl _, Nat.zero_le _, .inl ⟨rfl, rfl⟩, fun k hk => by simp [Value.ownBlock] at hk⟩
  · simp only [Value.slice.injEq] at h0
    obtain ⟨rfl, _, rfl⟩ := h0
    subst hn
    refine ⟨h1, h2, .inr ⟨g, 0, xs.length, rfl, Nat.le_refl _, by omega, (Array.getElem?_eq_some_iff.1 hg).1, fun i x hi => ?_⟩, fun k hk => by simp [Value.ownBlock] at hk; omega⟩
    rw [Nat.zero_add]
    exact (own_rowg2 h).cell (ints_get hi)
theorem owns_up {w : World} {B e size n : Nat} {v : Value} {xs : List Value} (h : w.ownsRow 0 e size v n xs) (hB : ∀ k, v.ownBlock = some k → B ≤ k) : w.ownsRow B e size v n xs := by
  refine ⟨h.1, ?_⟩
  rcases h.2 with hn | ⟨g, cap, cur, rfl, _, rest⟩
  · exact .inl hn
  · exact .inr ⟨g, cap, cur, rfl, hB g rfl, rest⟩
theorem owns_put {w : World} {B e size g n c : Nat} {xs : List Value} (h : w.ownsRow B e size (.slice (some ⟨g, 0, none⟩) n c) n xs) (i : Nat) (u : Value) : (w.setCell ⟨g, i, none⟩ u).ownsRow B e size (.slice (some ⟨g, 0, none⟩) n c) n (xs.set i u) :=
  owns_up (owns_setCell (owns_base h) rfl i u) (fun k hk => (h.lt k hk).1)
theorem ints_new (w : World) (x : Int) {g : Nat} (hg : g = w.heap.size) : IntsAt (w.alloc (.cells #[.int .i64 x] 3)) (.slice (some ⟨g, 0, none⟩) 1 1) [x] := by
  subst hg
  refine .inr ⟨w.heap.size, 0, 1, rfl, Nat.le_refl _, by unfold maxLen; omega, by simp, fun i y hi => ?_⟩
  cases i with
  | zero =>
    simp only [List.getElem?_cons_zero, Option.some.injEq] at hi
    subst hi
    exact (RowAt.made w 3 [.int .i64 x] #[.int .i64 x] rfl).cell (i := 0) rfl
  | succ i => simp at hi

set_option linter.unusedSimpArgs false in
set_option maxRecDepth 100000 in
set_option maxHeartbeats 4000000 in
theorem reach_any {w : World} {hb : Nat} {fp : List Nat} {most : Int} {cs : List HC} (h : HW 60 w hb fp most cs) (ho : HOk cs) (v : Value) (rs : List Int) (hv : IntsAt w v rs) (hrl : rs.length ≤ 1000) :
    Calls Try.prog 24 #[.pointer (some ⟨hb, 0, none⟩), v] w fun e w' => RchEnd w.heap.size (natI (rset cs (rts cs rs))) w' e ∧ Frm [] w w' := by
  obtain ⟨cv, vs, h, rfl⟩ := h
  obtain ⟨a, cap, rfl, hl⟩ := owns_shape h.row
  obtain ⟨a2, cap2, rfl, hl2⟩ := hv.shape
  have h1 := h.hd.cell (i := 1) rfl
  have hsm := h.small
  have hhb := h.hd.lt
  have HH := Lib.hid h
  have HO := Lib.hid ho
  have HV := Lib.hid hv
  have hl2' : (rs.length : Int) ≤ 9223372036854775807 := hl2
  clear h ho hv
  go_enter Try.func24, Try.ntmps24
  go_wp2_with (first | (at_make; refine wpl_make_b _ rfl (.tmp 13) rfl _ cs.length rfl rfl (by omega) ?_) | (at_make; fail))
  intro w1 hown1 hf1
  obtain ⟨gs, hgs⟩ : ∃ x, x = w.heap.size := ⟨_, rfl⟩
  rw [← hgs] at hown1 ⊢
  have hcl := clone_any (.slice a2 rs.length cap2) rs w1 (HV.out.frm hf1 (by simp)) (by omega)
  have HOWN1 := Lib.hid hown1
  have HF1 := Lib.hid hf1
  have hsz1 := hf1.size
  have HGS := Lib.hid hgs
  have hgs1 := (hown1.lt gs rfl).2
  clear hown1 hf1 hgs
  go_wp2_with fail
  refine hcl.mono ?_
  rintro e2 w2 ⟨a3, c3, rfl, hown2, hf2⟩
  have HOWN2 := Lib.hid (ownsB_mono hown2 (C := w.heap.size) hsz1)
  have HSEEN2 := Lib.hid (ownsB_frm HOWN1.out hf2 (by simp))
  have HF2 := Lib.hid (HF1.out.trans hf2 (by simp))
  clear hcl hown2 hf2
  go_wp2_with fail
  go_loopg [6, 7, 8] (rs.length + 3 * cs.length) (fun q s6 s7 s8 wr => ∃ (seen : List Bool) (out : List Nat) (stk : List Int) (a6 a7 : Option Addr) (c6 c7 : Nat), q = stk.length + 3 * (cs.length - out.length) ∧ s6 = .slice a6 stk.length c6 ∧ s7 = .slice a7 out.length c7 ∧ Srch cs (rts cs rs) seen out stk ∧ stk.length ≤ rs.length + 2 * out.length ∧
    wr.ownsRow w.heap.size 3 1 (.slice a6 stk.length c6) stk.length (ints stk) ∧ wr.ownsRow w.heap.size 3 1 (.slice a7 out.length c7) out.length (ints (natI out)) ∧ (∀ k, (Value.slice a6 stk.length c6).ownBlock = some k → (Value.slice a7 out.length c7).ownBlock ≠ some k) ∧ wr.ownsRow w.heap.size 4 1 (.slice (some ⟨gs, 0, none⟩) cs.length cs.length) cs.length (bools seen) ∧ Frm [] w wr)
  case atStart => exact ⟨_, [], rs, a3, none, c3, 0, by simp, rfl, rfl, Srch.start cs rs, by omega, HOWN2.out, World.ownsRow_nil _ _ _ _, (fun k _ => by simp [Value.ownBlock]), ownsB_mono HSEEN2.out (by rw [HGS.out]; exact Nat.le_refl _), HF2.out⟩
  case round =>
    obtain ⟨seen, out, stk, a6, a7, c6, c7, rfl, rfl, rfl, hS, hsl, ho6, ho7, hne, hos, hF⟩ := hrel
    have hfew := hS.few
    have HS := Lib.hid hS
    have HO6 := Lib.hid ho6
    have HO7 := Lib.hid ho7
    have HNE := Lib.hid hne
    have HOS := Lib.hid hos
    have HF := Lib.hid hF
    have hszr := hF.size
    have hcn : Hid (cs.length ≤ 65536) := Lib.hid hsm
    clear hS ho6 ho7 hne hos hF
    rcases List.eq_nil_or_concat stk with hnil | ⟨s0, r, hcat⟩
    · subst hnil
      have i5 : ¬ (0 : Int) < ((([] : List Int).length : Nat) : Int) := by simp
      have hso := sort_any w.heap.size a7 c7 out.length (natI out) wr HO7.out (by omega)
      go_wp2_with fail
      refine hso.mono ?_
      rintro e4 w4 ⟨⟨rfl, hown4⟩, hf4⟩
      obtain ⟨vs', hvs1, hvs2, hvs3, hvs4⟩ := sorted_nat HS.out.nd
      have hres : vs' = rset cs (rts cs rs) := asc_unique hvs3 (rset_asc _ _) (fun x => by rw [hvs4 x, HS.out.done x])
      rw [hvs1, hres] at hown4
      have hln : (rset cs (rts cs rs)).length = out.length := by rw [← hres, hvs2]
      have hcp := own_clip hown4 (by rw [natI_len, hln])
      have hcl := clip_any a7 out.length c7 w4 hcp.1 hcp.2.1
      have HCP := Lib.hid hcp
      have HF4 := Lib.hid (HF.out.trans hf4 (fun k hk => .inr (HO7.out.lt k (by simpa using hk)).1))
      have HLN := Lib.hid hln
      clear hso hown4 hcp hf4 hvs1 hvs2 hvs3 hvs4 hres hln
      go_wp2_with fail
      refine hcl.mono ?_
      rintro e5 w5 ⟨rfl, rfl⟩
      clear hcl
      go_wp2_with fail
      go_ret
      refine ⟨⟨a7, out.length, ?_, ?_, ?_⟩, HF4.out⟩
      · rw [natI_len, HLN.out]; rfl
      · rw [natI_len, HLN.out]; exact HCP.out.2.2.1
      · rw [natI_len, HLN.out]; exact HCP.out.2.2.2
    · rw [List.concat_eq_append] at hcat
      subst hcat
      obtain ⟨N, hN⟩ : ∃ N, s0.length = N := ⟨_, rfl⟩
      obtain ⟨L, hL⟩ : ∃ L, (s0 ++ [r]).length = L := ⟨_, rfl⟩
      have hLN : L = N + 1 := by rw [← hL, List.length_append, hN]; rfl
      have h6 := HO6.out
      rw [hL] at h6 hsl ⊢
      obtain ⟨g6, cp6, he6, hc6, hm6, hr6⟩ := owns_some (owns_base h6) (by omega)
      obtain ⟨rfl, rfl⟩ : a6 = some ⟨g6, 0, none⟩ ∧ c6 = cp6 := by simpa using he6
      have q6 := hr6.cell (i := N) (v := .int .i64 r) (ints_get (by rw [← hN]; simp))
      have hpre := owns_cast (owns_prefix h6 (m := N) (by omega) (by simp)) (ys := ints s0) (by
        rw [Nat.mul_one, ints, List.map_append, List.take_append_of_le_length (by rw [List.length_map, hN]; exact Nat.le_refl _), List.take_of_length_le (by rw [List.length_map, hN]; exact Nat.le_refl _)]
        rfl)
      have HP6 := Lib.hid hpre
      have HNE6 : Hid (∀ k, (Value.slice (some ⟨g6, 0, none⟩) N c6).ownBlock = some k → (Value.slice a7 out.length c7).ownBlock ≠ some k) := Lib.hid (fun k hk => HNE.out k hk)
      have iL0 : (0 : Int) < (L : Int) := by omega
      have iw : IntKind.i64.wrap ((L : Int) - 1) = (N : Int) := by
        rw [show (L : Int) - 1 = (N : Int) by omega]
        exact IntWalk.i64_in _ (by omega)
      have iNL : (N : Int) < (L : Int) := by omega
      have iN0 : (0 : Int) ≤ (N : Int) := by omega
      have iNc : (N : Int) ≤ (c6 : Int) := by omega
      have HLN := Lib.hid hLN
      have HN := Lib.hid hN
      have HHR := Lib.hid (HH.out.frm HF.out (by simp))
      have HSL := Lib.hid hsl
      have HL := Lib.hid hL
      clear h6 he6 hr6 hpre hL hLN hN hsl hm6
      cases hin : inL cs r with
      | false =>
        have hex := exists_no HHR.out r (inL_no hin)
        have HSK := Lib.hid (HS.out.skip (.inl hin) HO.out (fun u hu => (mem_rts.1 hu).1))
        clear hin
        go_wp2_with fail
        refine hex.mono ?_
        rintro e4 w4 ⟨rfl, rfl⟩
        clear hex
        go_wp2_with fail
        go_roundg (N + 3 * (cs.length - out.length))
        case rel => exact ⟨seen, out, s0, _, _, _, _, by rw [HN.out], by rw [HN.out], rfl, HSK.out, by have := HSL.out; have := HLN.out; have := HN.out; omega, by rw [HN.out]; exact HP6.out, HO7.out, by rw [HN.out]; exact HNE6.out, HOS.out, HF.out⟩
        case measure => have := HLN.out; have := HL.out; omega
      | true =>
        obtain ⟨k, rfl, hk⟩ := inL_nat hin
        obtain ⟨b, hb⟩ : ∃ b, seen[k]? = some b := ⟨_, List.getElem?_eq_getElem (by rw [HS.out.len]; exact hk)⟩
        have hex := exists_yes HHR.out k hk
        have qs := (own_rowg2 HOS.out).cell (bools_get hb)
        have zs := (own_rowg2 HOS.out).frozen k
        have HB := Lib.hid hb
        have i1 : (k : Int) < (cs.length : Int) := by omega
        have i2 : (0 : Int) ≤ (k : Int) := by omega
        have i3 : (cs.length : Int) ≤ 65536 := by omega
        have HK := Lib.hid hk
        clear hin hb hk
        cases b with
        | true =>
          have HSK := Lib.hid (HS.out.skip (.inr ((HS.out.mem k).1 HB.out)) HO.out (fun u hu => (mem_rts.1 hu).1))
          go_wp2_with fail
          refine hex.mono ?_
          rintro e4 w4 ⟨rfl, rfl⟩
          clear hex
          go_wp2_with fail
          go_roundg (N + 3 * (cs.length - out.length))
          case rel => exact ⟨seen, out, s0, _, _, _, _, by rw [HN.out], by rw [HN.out], rfl, HSK.out, by have := HSL.out; have := HLN.out; have := HN.out; omega, by rw [HN.out]; exact HP6.out, HO7.out, by rw [HN.out]; exact HNE6.out, HOS.out, HF.out⟩
          case measure => have := HLN.out; have := HL.out; omega
        | false =>
          have hno : k ∉ out := fun hm => by
            have := (HS.out.mem k).2 hm
            rw [HB.out] at this
            cases this
          have htk := HS.out.take HK.out hno HO.out
          obtain ⟨c, hc⟩ : ∃ c, cellAt cs k = c := ⟨_, rfl⟩
          rw [hc] at htk
          have hcs := cellAt_get HK.out
          rw [hc] at hcs
          have htwo := HO.out.few HK.out
          rw [hc] at htwo
          have HTK := Lib.hid htk
          have HCS := Lib.hid hcs
          have hol : out.length < cs.length := by have := htk.few; rw [List.length_append, List.length_singleton] at this; omega
          have f8 : Frm [gs] wr (wr.setCell ⟨gs, k, none⟩ (.bool true)) := (Frm.refl [gs] wr).setCell (.inl (by simp)) _
          have n7 : ∀ x, (Value.slice a7 out.length c7).ownBlock = some x → x ∉ [gs] := fun x hx hm => by
            rw [List.mem_singleton] at hm
            subst hm
            exact nb_of HO7.out HOS.out (by decide) x hx rfl
          have n6 : ∀ x, (Value.slice (some (⟨g6, 0, none⟩ : Addr)) N c6).ownBlock = some x → x ∉ [gs] := fun x hx hm => by
            rw [List.mem_singleton] at hm
            subst hm
            exact nb_of HP6.out HOS.out (by decide) x hx rfl
          have H78 := Lib.hid (ownsB_frm HO7.out f8 n7)
          have H68 := Lib.hid (ownsB_frm HP6.out f8 n6)
          have H58 := Lib.hid (owns_cast (owns_put HOS.out k (.bool true)) (bools_set seen k true).symm)
          have hgs0 : w.heap.size ≤ gs := by rw [HGS.out]; exact Nat.le_refl _
          have HF8 := Lib.hid (HF.out.trans f8 (fun x hx => .inr (by rw [List.mem_singleton] at hx; omega)))
          have hgsw := (HOS.out.lt gs rfl).2
          have hg6w := HP6.out.lt g6 rfl
          clear hno htk hc hcs f8 n7 n6
          go_wp2_with (first | (refine hex.mono ?_; rintro e4 w4 ⟨rfl, rfl⟩) | (at_builtin; refine app_ints rfl (.tmp 44) (.tmp 46) rfl w.heap.size out.length (out.length + 1) (.slice a7 out.length c7) (natI out) rfl (H78.out.alloc _) (.slice (some ⟨_, 0, none⟩) 1 1) [(k : Int)] rfl (ints_new _ _ (by simp)) rfl (by omega) (by simp; omega) ?_) | (at_builtin; fail))
          intro a9 c9 w9 hown9 hf9 hloc9
          have f9 : Frm [] (wr.setCell ⟨gs, k, none⟩ (.bool true)) ((wr.setCell ⟨gs, k, none⟩ (.bool true)).alloc (.cells #[.int .i64 (k : Int)] 3)) := (Frm.refl [] _).alloc _
          have h69 := ownsB_frm (H68.out.alloc (.cells #[.int .i64 (k : Int)] 3)) hf9 (fun x hx hm => HNE6.out x hx (by simpa using hm))
          have h59 := ownsB_frm (H58.out.alloc (.cells #[.int .i64 (k : Int)] 3)) hf9 (fun x hx hm => nb_of HO7.out HOS.out (by decide) x (by simpa using hm) (by simpa using hx))
          have hf09 : Frm [] w w9 := (HF8.out.trans f9 (by simp)).trans hf9 (fun x hx => .inr (HO7.out.lt x (by simpa using hx)).1)
          have hne9 : ∀ x, (Value.slice (some (⟨g6, 0, none⟩ : Addr)) N c6).ownBlock = some x → (Value.slice a9 (out.length + 1) c9).ownBlock ≠ some x := fun x hx h8 => by
            rcases hloc9 x h8 with h7 | h7
            · exact HNE6.out x hx h7
            · have : g6 = x := by simpa [Value.ownBlock] using hx
              omega
          have HH9 := HH.out.frm hf09 (by simp)
          obtain ⟨cb, cap9, he9, _, hcm9, hcc9⟩ := HH9.shape (by omega)
          obtain ⟨rfl, rfl⟩ : a = some ⟨cb, 0, none⟩ ∧ cap = cap9 := by simpa using he9
          obtain ⟨vr, hvr, k0, k1, k2, _, _, _, hrf⟩ := hcc9 k c HCS.out
          obtain ⟨ar, cr, rfl, hlr⟩ := owns_shape hrf
          have hq9 := HH9.hd.cell (i := 1) rfl
          have HIR := Lib.hid (ints_of_owns hrf)
          have H69 := Lib.hid h69
          have H59 := Lib.hid h59
          have H79 : Hid (w9.ownsRow w.heap.size 3 1 (.slice a9 (out.length + 1) c9) (out.length + 1) (ints (natI (out ++ [k])))) := Lib.hid (owns_cast hown9 (by rw [natI, natI, List.map_append]; rfl))
          have HF9 := Lib.hid hf09
          have HNE9 := Lib.hid hne9
          have hsz9 := hf9.size
          have hb9 := HF9.out.size
          have hNb : N ≤ 200000 := by have := HSL.out; have := HLN.out; omega
          have hg69 := h69.lt g6 rfl
          clear hown9 hf9 hloc9 h69 h59 hf09 hne9 HH9 he9 hcc9 hrf f9 hex
          go_wp2_with (first | (at_builtin; refine app_ints rfl (.tmp 48) (.tmp 56) rfl w.heap.size N (N + c.refs.length) (.slice (some ⟨g6, 0, none⟩) N c6) s0 rfl H69.out (.slice ar c.refs.length cr) c.refs rfl HIR.out rfl (by omega) (by omega) ?_) | (at_builtin; fail))
          intro a10 c10 w10 hown10 hf10 hloc10
          have H710 := Lib.hid (ownsB_frm H79.out hf10 (fun x hx hm => HNE9.out x (by simpa using hm) hx))
          have H510 := Lib.hid (ownsB_frm H59.out hf10 (fun x hx hm => nb_of H69.out H59.out (by decide) x (by simpa using hm) hx))
          have HF10 : Hid (Frm [] w w10) := Lib.hid (HF9.out.trans hf10 (fun x hx => .inr (H69.out.lt x (by simpa using hx)).1))
          have HNE10 : Hid (∀ x, (Value.slice a10 (N + c.refs.length) c10).ownBlock = some x → (Value.slice a9 (out.length + 1) c9).ownBlock ≠ some x) := Lib.hid (fun x hx h8 => by
            rcases hloc10 x hx with h7 | h7
            · exact HNE9.out x h7 h8
            · have := (H79.out.lt x h8).2
              omega)
          have HO10 := Lib.hid hown10
          have hlen10 : (s0 ++ c.refs).length = N + c.refs.length := by rw [List.length_append, HN.out]
          have hlen9 : (out ++ [k]).length = out.length + 1 := by rw [List.length_append]; rfl
          have HL10 := Lib.hid hlen10
          have HL9 := Lib.hid hlen9
          clear hown10 hf10 hloc10 hlen10 hlen9
          go_wp2_with fail
          go_roundg (N + c.refs.length + 3 * (cs.length - (out.length + 1)))
          case rel => exact ⟨seen.set k true, out ++ [k], s0 ++ c.refs, a10, a9, c10, c9, by rw [HL10.out, HL9.out], by rw [HL10.out], by rw [HL9.out], HTK.out, by rw [HL10.out, HL9.out]; have := HSL.out; have := HLN.out; omega, by rw [HL10.out]; exact HO10.out, by rw [HL9.out]; exact H710.out, by rw [HL10.out, HL9.out]; exact HNE10.out, H510.out, HF10.out⟩
          case measure => have := HLN.out; have := HL.out; omega

end Go.Proofs.Ytlpgonnionbkfaa
