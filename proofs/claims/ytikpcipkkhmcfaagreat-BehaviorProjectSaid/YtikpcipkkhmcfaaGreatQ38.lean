/- Texts AG, WC, WD, WE. -/
import Derived.Test.YtikpcipkkhmcfaaGreatQ20
import Derived.Test.YtikpcipkkhmcfaaGreatQ33
import Derived.Test.YtikpcipkkhmcfaaGreatQ37
import Derived.Test.YtikpcipkkhmcfaaGreatQ34
/- Merged text: R5, R6 of the notes. -/
/- Contract of OnCycle of the reference. -/
namespace Go.Proofs.YtikpcipkkhmcfaaGreat
open Go.RowKit

theorem natI_one {n : Nat} {w : World} {g c : Nat} {vs : List Nat} {B : Nat} (h : w.ownsRow B 3 1 (.slice (some ⟨g, 0, none⟩) vs.length c) vs.length (ints (natI vs))) (hn : w.heap.size ≤ n) : Rd n w (some ⟨g, 0, none⟩) (natI vs).length c 1 (ints (natI vs)) := by
 rw [natI_len]
 exact rd_of_owns h hn
theorem has_vs (w : World) (g c : Nat) (vs : List Nat) (k : Nat) {B : Nat} (h : w.ownsRow B 3 1 (.slice (some ⟨g, 0, none⟩) vs.length c) vs.length (ints (natI vs))) :
  Calls Tryz.prog 107 #[.slice (some ⟨g, 0, none⟩) vs.length c, .int .i64 (k : Int)] w fun e w' => e = .returned (.bool (hasB (natI vs) (k : Int))) ∧ Frm [] w w' := by
 have := has_any w.heap.size (some ⟨g, 0, none⟩) c (natI vs) (k : Int) w (natI_one h (Nat.le_refl _))
 rw [natI_len] at this
 exact this

def OncEnd (E : Nat → List Nat) (k : Nat) (e : Ending) : Prop := ∃ b : Bool, e = .returned (.bool b) ∧ (b = true ↔ OnC E k)
set_option linter.unusedSimpArgs false in
set_option maxRecDepth 100000 in
set_option maxHeartbeats 4000000 in
theorem onc_any (B0 : Nat) (a : Option Addr) (cap : Nat) (l : Lts) (k : Nat) (w : World) (h : LAt B0 w a cap l) (hv : validB l = true) (hk : k < l.length) :
  Calls Tryz.prog 139 #[.agg #[.slice a l.length cap], .int .i64 (k : Int)] w fun e w' => OncEnd (Esel l true) k e ∧ Frm [] w w' := by
 have f0 : Frm [] w (w.alloc (.cells #[.slice a l.length cap] 25)) := (Frm.refl [] w).alloc _
 have hcut0 := h.cut
 clear h
 have h := hcut0
 clear hcut0
 have HB := Lib.hid (box1 w (.slice a l.length cap) 25)
 have HL0 := Lib.hid (h.nil f0 rfl)
 have hl := h.lt
 have HV := Lib.hid (vlts_of hv)
 have HVB := Lib.hid hv
 have hfew := (vlts_of hv).few
 obtain ⟨row, hrow⟩ : ∃ row, l[k]? = some row := ⟨_, List.getElem?_eq_getElem hk⟩
 have hfewr := ((vlts_of hv).row row (List.mem_of_getElem? hrow)).few
 obtain ⟨bl, ol, ra, rc, rfl, hbl, q1, hrr⟩ := h.cell k row hrow
 have HROW := Lib.hid hrow
 have HRR := Lib.hid (RowR.frm hrr f0 (by simp))
 have Q1 := Lib.hid (f0.cell q1 (by simp))
 have i2 : (l.length : Int) ≤ 16384 := by omega
 have i3 : (row.length : Int) ≤ 262144 := by omega
 have i4 : (0 : Int) ≤ (k : Int) := by omega
 have i5 : (k : Int) < (l.length : Int) := by omega
 clear h hrow hrr q1 hv
 go_enter Tryz.func139, Tryz.ntmps139
 go_wp2_with fail
 go_loopg [5] row.length (fun q i wr => ∃ (j : Nat), q = row.length - j ∧ j ≤ row.length ∧ i = .int .i64 (j : Int) ∧ (∀ t ∈ pushed [] row true j, ¬ Path (Esel l true) t k) ∧ Frm [] (w.alloc (.cells #[.slice (some ⟨bl, ol, none⟩) l.length cap] 25)) wr)
 case atStart => exact ⟨0, rfl, Nat.zero_le _, rfl, fun t ht => by simp [pushed] at ht, Frm.refl _ _⟩
 case round =>
  obtain ⟨j, rfl, hj, rfl, hno, hF⟩ := hrel
  have HNO := Lib.hid hno
  have HF := Lib.hid hF
  have cb := (HB.out.frm hF (by simp)).cell (i := 0) rfl
  have ql := hF.cell Q1.out (by simp)
  have i6 : (0 : Int) ≤ (j : Int) := by omega
  have ncb := World.block_lt_of_cell? _ _ cb
  have nql := World.block_lt_of_cell? _ _ ql
  simp only at ncb nql
  have HLR := Lib.hid (HL0.out.nil hF rfl)
  have CB := Lib.hid cb
  clear hno hF
  by_cases hjl : j < row.length
  ·have i7 : (j : Int) < (row.length : Int) := by omega
   obtain ⟨⟨e, t⟩, harc⟩ : ∃ y, row[j]? = some y := ⟨_, List.getElem?_eq_getElem hjl⟩
   have hok := (HV.out.row row (List.mem_of_getElem? HROW.out)).ok e t (List.mem_of_getElem? harc)
   obtain ⟨m, rfl⟩ : ∃ m : Nat, t = (m : Int) := ⟨t.toNat, by omega⟩
   have hml : m < l.length := by omega
   obtain ⟨b1, o1, rfl, hb1, p1, p2⟩ := HRR.out.2.2.2 j e m harc
   have d1 := HF.out.cell p1 (by simp)
   have d2 := HF.out.cell p2 (by simp)
   have n1 := World.block_lt_of_cell? _ _ d1
   simp only at n1
   have HARC := Lib.hid harc
   have i8 : (0 : Int) ≤ (m : Int) := by omega
   have i9 : (m : Int) < (l.length : Int) := by omega
   clear p1 p2 harc hok
   by_cases he0 : e = 0
   ·subst he0
    have HYES := Lib.hid (pushed_yes (r := []) (silent := true) HARC.out (by simp [follows]))
    have hfa : Frm [] wr ((wr.alloc (.cells #[.int .i64 0, .int .i64 (m : Int)] 66)).alloc (.cells #[.int .i64 (m : Int)] 3)) := ((Frm.refl [] wr).alloc _).alloc _
    have HFA := Lib.hid hfa
    have hcm : ((wr.alloc (.cells #[.int .i64 0, .int .i64 (m : Int)] 66)).alloc (.cells #[.int .i64 (m : Int)] 3)).cell? ⟨wr.heap.size + 1, 0, none⟩ = some (.int .i64 (m : Int)) := by
     have h9 := (box1 (wr.alloc (.cells #[.int .i64 0, .int .i64 (m : Int)] 66)) (.int .i64 (m : Int)) 3).cell (i := 0) rfl
     have h8 : (wr.alloc (.cells #[.int .i64 0, .int .i64 (m : Int)] 66)).heap.size = wr.heap.size + 1 := by simp only [World.alloc, Array.size_push]
     rw [h8] at h9
     exact h9
    have hrc := rreach_one w.heap.size (some ⟨bl, ol, none⟩) cap l m (wr.heap.size + 1) true _ (HLR.out.nil hfa rfl) HVB.out hml hcm
    clear hfa hcm
    go_wp2_with fail
    refine hrc.mono ?_
    rintro e3 w3 ⟨⟨g', c', vs, rfl, hown3, hir3⟩, hf3⟩
    have hhas := has_vs w3 g' c' vs k hown3
    have HIR := Lib.hid hir3
    have HF3 := Lib.hid ((HF.out.trans HFA.out (by simp)).trans hf3 (by simp))
    clear hrc hown3 hir3 hf3
    go_wp2_with fail
    refine hhas.mono ?_
    rintro e4 w4 ⟨rfl, hf4⟩
    have HF4 := Lib.hid (HF3.out.trans hf4 (by simp))
    clear hhas hf4 cb ql
    cases hh : hasB (natI vs) (k : Int) with
    | true =>
     have hon : OnC (Esel l true) k := by
      refine ⟨m, ?_, (has_path HIR.out).1 hh⟩
      have h2 := pushed_end HV.out (r := []) HROW.out true
      rw [List.nil_append] at h2
      rw [← h2]
      simp only [pushed, List.nil_append, List.take_length, List.mem_map]
      exact ⟨(0, (m : Int)), List.mem_filter.2 ⟨List.mem_of_getElem? HARC.out, by simp [follows]⟩, by simp⟩
     have HON : Hid (OncEnd (Esel l true) k (.returned (.bool true))) := Lib.hid ⟨true, rfl, fun _ => hon, fun _ => rfl⟩
     clear hh hon
     go_wp2_with fail
     go_ret
     exact ⟨HON.out, f0.trans HF4.out (by simp)⟩
    | false =>
     have HN : Hid (∀ t ∈ pushed [] row true (j + 1), ¬ Path (Esel l true) t k) := Lib.hid (fun t ht => by
      rw [← HYES.out] at ht
      rcases List.mem_append.1 ht with ht | ht
      ·exact HNO.out t ht
      ·rw [List.mem_singleton] at ht
       subst ht
       intro hp
       have := (has_path HIR.out).2 hp
       rw [hh] at this
       cases this)
     clear hh
     go_wp2_with fail
     go_roundg (row.length - (j + 1))
     case rel => exact ⟨j + 1, rfl, hjl, by go_num, HN.out, HF4.out⟩
     case measure => omega
   ·have heb : (e == 0) = false := by simpa using he0
    have HN : Hid (∀ t ∈ pushed [] row true (j + 1), ¬ Path (Esel l true) t k) := Lib.hid (by
     rw [← pushed_no HARC.out (by simp [follows, he0])]
     exact HNO.out)
    go_wp2_with fail
    go_roundg (row.length - (j + 1))
    case rel => exact ⟨j + 1, rfl, hjl, by go_num, HN.out, HF.out.alloc _⟩
    case measure => omega
  ·have i7 : ¬ (j : Int) < (row.length : Int) := by omega
   have hjj : j = row.length := by omega
   have hoff : ¬ OnC (Esel l true) k := by
    rintro ⟨t, ht, hp⟩
    refine HNO.out t ?_ hp
    rw [hjj, pushed_end HV.out HROW.out true]
    exact ht
   have HOFF : Hid (OncEnd (Esel l true) k (.returned (.bool false))) := Lib.hid ⟨false, rfl, (fun h => by cases h), (fun h => absurd h hoff)⟩
   clear hjj hoff
   go_wp2_with fail
   go_ret
   exact ⟨HOFF.out, f0.trans HF.out (by simp)⟩

end Go.Proofs.YtikpcipkkhmcfaaGreat

/- Contract of Divergent of the reference. -/
namespace Go.Proofs.YtikpcipkkhmcfaaGreat
open Go.RowKit

/-- Entries below k are settled, entry k is b, the others are false. -/
structure DivTo (E : Nat → List Nat) (n : Nat) (ls : List Nat) (bs : List Bool) (k : Nat) (b : Bool) : Prop where
 len : bs.length = n
 lo : ∀ v, v < k → (bs[v]? = some true ↔ ∃ u ∈ ls, Path E v u)
 ent : k < n → bs[k]? = some b
 hi : ∀ v, k < v → v < n → bs[v]? = some false
theorem DivTo.start (E : Nat → List Nat) (n : Nat) (ls : List Nat) : DivTo E n ls (List.replicate n false) 0 false :=
 ⟨by simp, fun v hv => absurd hv (Nat.not_lt_zero _), fun h => by rw [List.getElem?_replicate, if_pos h], fun v _ h => by rw [List.getElem?_replicate, if_pos h]⟩
theorem DivTo.put {E : Nat → List Nat} {n : Nat} {ls : List Nat} {bs : List Bool} {k : Nat} {b : Bool} (h : DivTo E n ls bs k b) (hk : k < n) (c : Bool) : DivTo E n ls (bs.set k c) k c :=
 ⟨by rw [List.length_set]; exact h.len, fun v hv => by rw [List.getElem?_set_ne (by omega)]; exact h.lo v hv, fun _ => by rw [List.getElem?_set_self (by rw [h.len]; exact hk)], fun v h1 h2 => by rw [List.getElem?_set_ne (by omega)]; exact h.hi v h1 h2⟩
theorem DivTo.next {E : Nat → List Nat} {n : Nat} {ls : List Nat} {bs : List Bool} {k : Nat} {b : Bool} (h : DivTo E n ls bs k b) (hk : k < n) (hb : b = true ↔ ∃ u ∈ ls, Path E k u) : DivTo E n ls bs (k + 1) false :=
 ⟨h.len, fun v hv => by
  by_cases hvk : v < k
  ·exact h.lo v hvk
  ·obtain rfl : v = k := by omega
   rw [h.ent hk, Option.some.injEq]
   exact hb, fun h1 => h.hi (k + 1) (by omega) h1, fun v h1 h2 => h.hi v (by omega) h2⟩
theorem DivTo.div {E : Nat → List Nat} {n : Nat} {ls : List Nat} {bs : List Bool} (hE : ∀ a b, a < n → b ∈ E a → b < n) (h : DivTo E n ls bs n false) (hl : ∀ v, v ∈ ls ↔ v < n ∧ OnC E v) : IsDiv E n bs :=
 ⟨h.len, fun v hv => (h.lo v hv).trans ⟨fun ⟨u, hu, hp⟩ => ⟨u, hp, ((hl u).1 hu).2⟩, fun ⟨u, hp, ho⟩ => ⟨u, (hl u).2 ⟨hp.lt hE hv, ho⟩, hp⟩⟩⟩
theorem div_none {E : Nat → List Nat} {n : Nat} (hE : ∀ a b, a < n → b ∈ E a → b < n) (hl : ∀ v, v ∈ ([] : List Nat) ↔ v < n ∧ OnC E v) : IsDiv E n (List.replicate n false) :=
 ⟨by simp, fun v hv => by
  rw [List.getElem?_replicate, if_pos hv]
  refine ⟨fun h => by simp at h, fun ⟨u, hp, ho⟩ => ?_⟩
  have := (hl u).2 ⟨hp.lt hE hv, ho⟩
  cases this⟩

set_option linter.unusedSimpArgs false in
set_option maxRecDepth 100000 in
set_option maxHeartbeats 4000000 in
theorem rdiv_any (B0 : Nat) (a : Option Addr) (cap : Nat) (l : Lts) (w : World) (h : LAt B0 w a cap l) :
  Calls Tryz.prog 118 #[.agg #[.slice a l.length cap]] w fun e w' => DivEnd w.heap.size l w' e ∧ Frm [] w w' := by
 have f0 : Frm [] w (w.alloc (.cells #[.slice a l.length cap] 25)) := (Frm.refl [] w).alloc _
 have hcut0 := h.cut
 clear h
 have h := hcut0
 clear hcut0
 have HB := Lib.hid (box1 w (.slice a l.length cap) 25)
 have HL0 := Lib.hid (h.nil f0 rfl)
 have hva := refValid_any w.heap.size a cap l _ (h.nil f0 rfl)
 have hl := h.lt
 clear h
 go_enter Tryz.func118, Tryz.ntmps118
 go_wp2_with fail
 refine hva.mono ?_
 rintro e1 w1 ⟨rfl, hf1⟩
 clear hva
 have F1 := f0.trans hf1 (by simp)
 have hb1 := (HB.out.frm hf1 (by simp)).cell (i := 0) rfl
 cases hv : validB l with
 | false =>
  have HR : Hid (DivEnd w.heap.size l w1 (.returned (.slice none 0 0))) := Lib.hid (by rw [DivEnd, if_neg (by rw [hv]; simp)])
  clear hv
  go_wp2_with fail
  go_ret
  exact ⟨HR.out, F1⟩
 | true =>
  have HVB := Lib.hid hv
  have HV := Lib.hid (vlts_of hv)
  have hfew := (vlts_of hv).few
  have i2 : (l.length : Int) ≤ 16384 := by omega
  have HF1 := Lib.hid F1
  have HL1 := Lib.hid (HL0.out.nil hf1 rfl)
  have HB1 := Lib.hid (HB.out.frm hf1 (by simp))
  have hsz1 := hf1.size
  simp only [World.alloc, Array.size_push] at hsz1
  clear hv F1 hf1
  go_wp2_with fail
  go_loopg [3, 4] l.length (fun q s3 s4 wr => ∃ (k : Nat) (ls : List Nat) (a3 : Option Addr) (c3 : Nat), q = l.length - k ∧ k ≤ l.length ∧ ls.length ≤ k ∧ (∀ v, v ∈ ls ↔ v < k ∧ OnC (Esel l true) v) ∧ s3 = .slice a3 ls.length c3 ∧ s4 = .int .i64 (k : Int) ∧ wr.ownsRow w1.heap.size 3 1 (.slice a3 ls.length c3) ls.length (ints (natI ls)) ∧ Frm [] w1 wr)
  case atStart => exact ⟨0, [], none, 0, rfl, Nat.zero_le _, Nat.le_refl _, fun v => by simp, rfl, rfl, World.ownsRow_nil _ _ _ _, Frm.refl _ _⟩
  case round =>
   obtain ⟨k, ls, a3, c3, rfl, hk, hlk, hmem, rfl, rfl, hown, hF⟩ := hrel
   have HMEM := Lib.hid hmem
   have HOWN := Lib.hid hown
   have HF := Lib.hid hF
   have cb := (HB1.out.frm hF (by simp)).cell (i := 0) rfl
   have i4 : (0 : Int) ≤ (k : Int) := by omega
   have hszr := hF.size
   have HLR := Lib.hid (HL1.out.nil hF rfl)
   have HBR := Lib.hid (HB1.out.frm hF (by simp))
   have i6 : (ls.length : Int) ≤ 16384 := by omega
   clear hmem hown hF hb1
   by_cases hkl : k < l.length
   ·have i5 : (k : Int) < (l.length : Int) := by omega
    have hon := onc_any w.heap.size a cap l k wr HLR.out HVB.out hkl
    go_wp2_with fail
    refine hon.mono ?_
    rintro e3 w3 ⟨hb3, hf3⟩
    obtain ⟨b, rfl, hb⟩ := hb3
    have HBI := Lib.hid hb
    have HF3 := Lib.hid (HF.out.trans hf3 (by simp))
    have HOWN3 := Lib.hid (ownsB_frm HOWN.out hf3 (by simp))
    have hsz3 := HF3.out.size
    clear hon hb hf3
    cases b with
    | false =>
     have HM : Hid (∀ v, v ∈ ls ↔ v < k + 1 ∧ OnC (Esel l true) v) := Lib.hid (fun v => by
      rw [HMEM.out v]
      refine ⟨fun h => ⟨by omega, h.2⟩, fun h => ⟨?_, h.2⟩⟩
      by_cases hvk : v = k
      ·subst hvk
       have := HBI.out.2 h.2
       cases this
      ·omega)
     go_wp2_with fail
     go_roundg (l.length - (k + 1))
     case rel => exact ⟨k + 1, ls, a3, c3, rfl, hkl, by omega, HM.out, rfl, by go_num, HOWN3.out, HF3.out⟩
     case measure => omega
    | true =>
     have HM : Hid (∀ v, v ∈ ls ++ [k] ↔ v < k + 1 ∧ OnC (Esel l true) v) := Lib.hid (fun v => by
      rw [List.mem_append, HMEM.out v, List.mem_singleton]
      constructor
      ·rintro (h | rfl)
       ·exact ⟨by omega, h.2⟩
       ·exact ⟨by omega, HBI.out.1 rfl⟩
      ·intro h
       by_cases hvk : v = k
       ·exact .inr hvk
       ·exact .inl ⟨by omega, h.2⟩)
     go_wp2_with (first | (at_builtin; refine wpl_app_int rfl (.tmp 22) (.tmp 24) rfl w1.heap.size ls.length (ls.length + 1) (.slice a3 ls.length c3) (natI ls) rfl (HOWN3.out.alloc _) (natI_len _) ⟨w3.heap.size, 0, none⟩ 1 1 [(k : Int)] rfl rfl (cells_new_at _ (k : Int) _ _ rfl) rfl (by omega) (by simp; omega) ?_) | (at_builtin; fail))
     intro a9 c9 w9 hown9 hf9 _
     have hown9' : w9.ownsRow w1.heap.size 3 1 (.slice a9 (ls ++ [k]).length c9) (ls ++ [k]).length (ints (natI (ls ++ [k]))) := by
      rw [List.length_append, natI, List.map_append]
      exact hown9
     have HOWN9 := Lib.hid hown9'
     have HF9 := Lib.hid (hf9 w1 (Nat.le_refl _) (HF3.out.alloc _))
     clear hown9 hf9 hown9'
     go_wp2_with fail
     go_roundg (l.length - (k + 1))
     case rel => exact ⟨k + 1, ls ++ [k], a9, c9, rfl, hkl, by rw [List.length_append]; simp; omega, HM.out, by rw [List.length_append]; rfl, by go_num, HOWN9.out, HF9.out⟩
     case measure => omega
   ·have i5 : ¬ (k : Int) < (l.length : Int) := by omega
    have hkk : k = l.length := by omega
    have hmem' := HMEM.out
    rw [hkk] at hmem'
    have HLS := Lib.hid hmem'
    obtain ⟨wq, hwqe⟩ : ∃ x, x = wr := ⟨wr, rfl⟩
    subst hwqe
    clear hkk hmem' HMEM
    go_wp2_with (first | (at_make; refine wpl_make_b _ rfl (.tmp 28) rfl _ l.length rfl rfl (by omega) ?_) | (at_make; fail))
    intro w4 hown4 hf4
    obtain ⟨go, hgoe⟩ : ∃ x, x = wq.heap.size := ⟨_, rfl⟩
    rw [← hgoe] at hown4 ⊢
    have HOWN4 := Lib.hid hown4
    have HF4 := Lib.hid hf4
    have HLS4 := Lib.hid (ownsB_frm HOWN.out hf4 (by simp))
    have cb4 := hf4.cell cb (by simp)
    have HB4 := Lib.hid (HBR.out.frm hf4 (by simp))
    have HL4 := Lib.hid (HLR.out.nil hf4 rfl)
    have hgwo : w.heap.size ≠ go := by omega
    have hwgo : w.heap.size ≤ go := by omega
    have hgol := (hown4.lt go rfl).2
    have HSEP : Hid (∀ q, (Value.slice a3 ls.length c3).ownBlock = some q → q ≠ go) := Lib.hid (fun q hq => by
     have := (HOWN.out.lt q hq).2
     omega)
    have HGO := Lib.hid hgoe
    clear hown4 hf4 cb hgoe
    by_cases h0 : ls = []
    ·subst h0
     have HEND : Hid (DivEnd w.heap.size l w4 (.returned (.slice (some ⟨go, 0, none⟩) l.length l.length))) := Lib.hid (by
      rw [DivEnd, if_pos HVB.out]
      exact ⟨go, _, rfl, ownsB_mono HOWN4.out (by omega), div_none (esel_edge HV.out true) HLS.out⟩)
     have HFIN := Lib.hid ((HF1.out.trans HF.out (by simp)).trans HF4.out (by simp))
     have i7 : ¬ (0 : Int) < ((([] : List Nat).length : Nat) : Int) := by simp
     simp only [List.length_nil] at *
     by_cases h0l : 0 < l.length
     ·have i8 : (0 : Int) < (l.length : Int) := by omega
      go_wp2_with fail
      refine wp_loop_rounds 1 ?_
      rw [rounds_succ]
      go_wp2_with fail
      go_ret
      exact ⟨HEND.out, HFIN.out⟩
     ·exact absurd (vlts_of HVB.out).pos h0l
    ·have hpos : 0 < ls.length := List.length_pos_iff.2 h0
     have i7 : (0 : Int) < (ls.length : Int) := by omega
     obtain ⟨g3, cc3, he3, _, _, _⟩ := owns_some (ownsB_mono HLS4.out (Nat.zero_le _)) hpos
     obtain ⟨rfl, rfl⟩ : a3 = some ⟨g3, 0, none⟩ ∧ c3 = cc3 := by simpa using he3
     have hg3 : g3 ≠ go := HSEP.out g3 rfl
     clear he3 h0
     go_wp2_with fail
     go_loopg [6] l.length (fun q s6 wr => ∃ (s : Nat) (bs : List Bool), q = l.length - s ∧ s ≤ l.length ∧ s6 = .int .i64 (s : Int) ∧ DivTo (Esel l true) l.length ls bs s false ∧ wr.ownsRow go 4 1 (.slice (some ⟨go, 0, none⟩) l.length l.length) l.length (bools bs) ∧ Frm [go] w4 wr)
     case atStart => exact ⟨0, _, rfl, Nat.zero_le _, rfl, DivTo.start _ _ _, HOWN4.out, Frm.refl _ _⟩
     case round =>
      obtain ⟨s, bs, rfl, hs, rfl, hdt, hown5, hF5⟩ := hrel
      have HDT := Lib.hid hdt
      have HOWN5 := Lib.hid hown5
      have HF5 := Lib.hid hF5
      have cb5 := (HB4.out.frm hF5 (by simp; omega)).cell (i := 0) rfl
      have i8 : (0 : Int) ≤ (s : Int) := by omega
      have ncb := World.block_lt_of_cell? _ _ cb5
      simp only at ncb
      have HL5 := Lib.hid (HL4.out.frm hF5 (by simp; omega))
      clear hdt hown5 hF5 cb4
      by_cases hsl : s < l.length
      ·have i9 : (s : Int) < (l.length : Int) := by omega
       have hrc := rreach_one w.heap.size a cap l s wr.heap.size true (wr.alloc (.cells #[.int .i64 (s : Int)] 3)) (HL5.out.nil ((Frm.refl [] wr).alloc _) rfl) HVB.out hsl ((box1 wr (.int .i64 (s : Int)) 3).cell (i := 0) rfl)
       go_wp2_with fail
       refine hrc.mono ?_
       rintro e6 w6 ⟨⟨gv, cv, vs, rfl, hownv, hirv⟩, hf6⟩
       have hfr6 : Frm [] wr w6 := ((Frm.refl [] wr).alloc (.cells #[.int .i64 (s : Int)] 3)).trans hf6 (by simp)
       have HFR6 := Lib.hid hfr6
       have HIR := Lib.hid hirv
       have HOWNV := Lib.hid hownv
       have HOWN6 := Lib.hid (own_frm_out HOWN5.out hfr6 (by simp))
       have hgo5 := (HOWN5.out.lt go rfl).2
       have hgvb := (hownv.lt gv rfl).1
       have hgv : gv ≠ go := by simp only [World.alloc, Array.size_push] at hgvb; omega
       clear hrc hownv hirv hf6 hfr6
       go_wp2_with fail
       go_loopg [8] ls.length (fun q s8 wr => ∃ (j : Nat) (bs : List Bool) (b : Bool), q = ls.length - j ∧ j ≤ ls.length ∧ s8 = .int .i64 (j : Int) ∧ (b = true ↔ ∃ u ∈ ls.take j, Path (Esel l true) s u) ∧ DivTo (Esel l true) l.length ls bs s b ∧ wr.ownsRow go 4 1 (.slice (some ⟨go, 0, none⟩) l.length l.length) l.length (bools bs) ∧ Frm [go] w6 wr)
       case atStart => exact ⟨0, bs, false, rfl, Nat.zero_le _, rfl, by simp, HDT.out, HOWN6.out, Frm.refl _ _⟩
       case round =>
        obtain ⟨wz, hwze⟩ : ∃ x, x = wr := ⟨wr, rfl⟩
        subst hwze
        obtain ⟨j, bs2, b, rfl, hj, rfl, hbi, hdt2, hown7, hF7⟩ := hrel
        have HBI := Lib.hid hbi
        have HDT2 := Lib.hid hdt2
        have HOWN7 := Lib.hid hown7
        have HF7 := Lib.hid hF7
        have i10 : (0 : Int) ≤ (j : Int) := by omega
        have hents := hdt2.ent hsl
        have zo := (own_rowg2 hown7).frozen s
        have co := (own_rowg2 hown7).cell (bools_get hents)
        clear hbi hdt2 hown7 hF7 hents
        by_cases hjl : j < ls.length
        ·have i11 : (j : Int) < (ls.length : Int) := by omega
         obtain ⟨u, hu⟩ : ∃ u, ls[j]? = some u := ⟨_, List.getElem?_eq_getElem hjl⟩
         have hls7 := own_frm_out (own_frm_out (own_frm_out HLS4.out HF5.out (by simpa using hg3)) HFR6.out (by simp)) HF7.out (by simpa using hg3)
         have cu := (own_rowg2 hls7).cell (ints_get (natI_get hu))
         have HUU := Lib.hid hu
         have htake : ∀ c : Bool, (c = true ↔ Path (Esel l true) s u) → ((b || c) = true ↔ ∃ u ∈ ls.take (j + 1), Path (Esel l true) s u) := fun c hc => by
          rw [List.take_add_one, hu, Option.toList_some, Bool.or_eq_true, HBI.out, hc]
          constructor
          ·rintro (⟨x, hx, hp⟩ | hp)
           ·exact ⟨x, List.mem_append_left _ hx, hp⟩
           ·exact ⟨u, by simp, hp⟩
          ·rintro ⟨x, hx, hp⟩
           rcases List.mem_append.1 hx with hx | hx
           ·exact .inl ⟨x, hx, hp⟩
           ·rw [List.mem_singleton] at hx
            exact .inr (hx ▸ hp)
         have HTK := Lib.hid htake
         have hset := fun c : Bool => ownsB_setCellG HOWN7.out (g := go) rfl s (.bool c)
         clear htake hu hls7
         cases b with
         | true =>
          have HSET : Hid _ := Lib.hid (hset true)
          have HDT3 := Lib.hid (HDT2.out.put hsl true)
          have HBI3 : Hid (∃ u ∈ ls.take (j + 1), Path (Esel l true) s u) := Lib.hid (by
           obtain ⟨x, hx, hp⟩ := HBI.out.1 rfl
           exact ⟨x, by rw [List.take_add_one]; exact List.mem_append_left _ hx, hp⟩)
          have HF8 := Lib.hid (HF7.out.setCell (p := ⟨go, s, none⟩) (.inl (by simp)) (.bool true))
          clear hset
          go_wp2_with fail
          go_roundg (ls.length - (j + 1))
          case rel => exact ⟨j + 1, _, true, rfl, hjl, by go_num, ⟨fun _ => HBI3.out, fun _ => rfl⟩, HDT3.out, by rw [bools_set]; exact HSET.out, HF8.out⟩
          case measure => omega
         | false =>
          have hvs7 := own_frm_out HOWNV.out HF7.out (by simpa using hgv)
          have hhas := has_vs wz gv cv vs u hvs7
          clear hset hvs7
          go_wp2_with fail
          refine hhas.mono ?_
          rintro e8 w8 ⟨rfl, hf8⟩
          obtain ⟨c, hc⟩ : ∃ c, hasB (natI vs) (u : Int) = c := ⟨_, rfl⟩
          rw [hc]
          have hcp : c = true ↔ Path (Esel l true) s u := by
           rw [← hc]
           rw [hasB_iff, natI, List.mem_map]
           constructor
           ·rintro ⟨x, hx, he⟩
            obtain rfl : x = u := by omega
            obtain ⟨y, hy, hp⟩ := (HIR.out.mem x).1 hx
            rw [List.mem_singleton] at hy
            rw [← hy]
            exact hp
           ·intro hp
            exact ⟨u, (HIR.out.mem u).2 ⟨s, List.mem_singleton.2 rfl, hp⟩, rfl⟩
          have HBI3 := Lib.hid (HTK.out c hcp)
          have hown8 := own_frm_out HOWN7.out hf8 (by simp)
          have HSET := Lib.hid (ownsB_setCellG hown8 (g := go) rfl s (.bool c))
          have HDT3 := Lib.hid (HDT2.out.put hsl c)
          have HF8 := Lib.hid ((HF7.out.trans hf8 (by simp)).setCell (p := ⟨go, s, none⟩) (.inl (by simp)) (.bool c))
          have co8 := hf8.cell co (by simp)
          have zo8 := (own_rowg2 hown8).frozen s
          clear hhas hcp hf8 hc hown8
          go_wp2_with fail
          go_roundg (ls.length - (j + 1))
          case rel => exact ⟨j + 1, _, c, rfl, hjl, by go_num, by simpa using HBI3.out, HDT3.out, by rw [bools_set]; exact HSET.out, HF8.out⟩
          case measure => omega
        ·have i11 : ¬ (j : Int) < (ls.length : Int) := by omega
         have hjj : j = ls.length := by omega
         have hnx : DivTo (Esel l true) l.length ls bs2 (s + 1) false := HDT2.out.next hsl (by
          have := HBI.out
          rw [hjj, List.take_length] at this
          exact this)
         have HNX := Lib.hid hnx
         have HF8 := Lib.hid ((HF5.out.trans HFR6.out (by simp)).trans HF7.out (by simp))
         clear hjj hnx
         go_wp2_with fail
         go_roundg (l.length - (s + 1))
         case rel => exact ⟨s + 1, bs2, rfl, hsl, by go_num, HNX.out, HOWN7.out, HF8.out⟩
         case measure => omega
      ·have i9 : ¬ (s : Int) < (l.length : Int) := by omega
       have hss : s = l.length := by omega
       have hdt := HDT.out
       rw [hss] at hdt
       have HEND : Hid (DivEnd w.heap.size l wr (.returned (.slice (some ⟨go, 0, none⟩) l.length l.length))) := Lib.hid (by
        rw [DivEnd, if_pos HVB.out]
        exact ⟨go, bs, rfl, ownsB_mono HOWN5.out (by omega), hdt.div (esel_edge HV.out true) HLS.out⟩)
       have HFIN := Lib.hid (((HF1.out.trans HF.out (by simp)).trans HF4.out (by simp)).trans HF5.out (by simp; omega))
       clear hss hdt
       go_wp2_with fail
       go_ret
       exact ⟨HEND.out, HFIN.out⟩

end Go.Proofs.YtikpcipkkhmcfaaGreat

/- The reference's Label, entry, offered. -/
namespace Go.Proofs.YtikpcipkkhmcfaaGreat.Beh
open Go.Shelf Go.RowKit Go.Lib Go.Sort Go.Maps Go.Proofs.YtikpcipkkhmcfaaGreat Go.Proofs.YtikpcipkkhmcfaaGreat.Ind

noncomputable def labA (l : Lts) (s : List Nat) (m : Int) : List (List Int) := if m = 1 then [] else if m = 2 then minL (accN l s) else if divB l s = true then [] else minL (accN l s)
noncomputable def labD (l : Lts) (s : List Nat) (m : Int) : Bool := if m = 1 then false else if m = 2 then false else divB l s
def LabEnd (w : World) (F : List Nat) (l : Lts) (s : List Nat) (m : Int) (e : Ending) (w' : World) : Prop :=
 (∃ a c, e = .returned (.tuple #[.slice a (labA l s m).length c, .bool (labD l s m)]) ∧ SetsAt w' F (.slice a (labA l s m).length c) (labA l s m)) ∧ Frm [] w w'
theorem racc_at {l : Lts} (hv : validB l = true) {v : Nat} {row : List Arc} (h : l[v]? = some row) : raccG l (v : Int) = accF row := by
 have hlt := (List.getElem?_eq_some_iff.1 h).1
 rw [← accG_eq, accG, if_pos ⟨hv, by rw [inB_iff]; omega⟩, Int.toNat_natCast, List.getD_eq_getElem?_getD, h]
 rfl
theorem sets_nil (w : World) (F : List Nat) : SetsAt w F (.slice none 0 0) [] := ⟨[], rfl, RowV.nil0 _ _ _, by simp⟩
set_option linter.unusedSimpArgs false in
set_option maxRecDepth 100000 in
set_option maxHeartbeats 8000000 in
theorem label_any (B : Nat) (F G : List Nat) (w : World) (a : Option Addr) (cap : Nat) (l : Lts) (sv : Value) (s : List Nat) (m : Int) (hv : validB l = true) (h0 : LAt B w a cap l) (hs : RowV w G sv s.length 1 (ints (natI s))) (hsl : ∀ v ∈ s, v < l.length) (hsn : s.length ≤ 16384) (hF : ∀ k ∈ F, k < w.heap.size) :
  Calls Tryz.prog 98 #[.agg #[.slice a l.length cap], sv, .int .i64 m] w (LabEnd w F l s m) := by
 obtain ⟨sa, sc, rfl⟩ := RowV.shape hs
 have hV := vlts_of hv
 have HVB := Lib.hid hv
 have HV := Lib.hid hV
 have HL0 := Lib.hid h0
 have HS := Lib.hid hs
 have HSL := Lib.hid hsl
 have HFL := Lib.hid hF
 have l1 := hs.rd.lt
 have hfew := hV.few
 have i2 : (l.length : Int) ≤ 16384 := by omega
 have HB0 := Lib.hid (RowAt.made w 25 [.slice a l.length cap] #[.slice a l.length cap] rfl)
 have F0 := Lib.hid ((Frm.refl [] w).alloc (.cells #[.slice a l.length cap] 25))
 have HDV : Hid (∀ W, Frm [] w W → Calls Tryz.prog 118 #[.agg #[.slice a l.length cap]] W fun e w' => (∃ g bs, e = .returned (.slice (some ⟨g, 0, none⟩) l.length l.length) ∧ w'.ownsRow W.heap.size 4 1 (.slice (some ⟨g, 0, none⟩) l.length l.length) l.length (bools bs) ∧ IsDiv (Esel l true) l.length bs) ∧ Frm [] W w') := Lib.hid fun W hf => by
  refine (rdiv_any B a cap l W (h0.nil hf rfl)).mono ?_
  rintro e w' ⟨h1, h2⟩
  rw [DivEnd, if_pos hv] at h1
  exact ⟨h1, h2⟩
 have c0 := HB0.out.cell (i := 0) rfl
 clear h0 hs hsl hv hV hF
 go_enter Tryz.func98, Tryz.ntmps98
 go_wp2_with (first
  | (go_at_call 118; refine (HDV.out _ F0.out).mono ?_; rintro e2 w2 ⟨⟨gd, bs, rfl, own2, hdv⟩, hf2⟩; have F2 := Lib.hid (F0.out.trans hf2 (by simp)); have B2 := Lib.hid (HB0.out.frm hf2 (by simp)); have HO2 := Lib.hid own2; have HDD := Lib.hid hdv; clear own2 hf2 hdv c0)
  | fail)
 go_loopg [8, 9, 11] s.length (fun q t8 t9 t11 wr => ∃ (i : Nat) (a9 : Option Addr) (c9 : Nat) (us : List Value), q = s.length - i ∧ i ≤ s.length ∧ t11 = .int .i64 i ∧ t9 = .bool (anyD bs (s.take i)) ∧ t8 = .slice a9 (accN l (s.take i)).length c9 ∧ Sep w2 wr [ownsC 22 3 1 ints (.slice a9 (accN l (s.take i)).length c9) us (accN l (s.take i))])
 case atStart => exact ⟨0, none, 0, [], rfl, Nat.zero_le _, rfl, rfl, rfl, (Sep.start w2).add (ownsC 22 3 1 ints (.slice none 0 0) [] []) (Frm.refl _ _) (ownsC_nil _ _ _ _ _) (by simp [ownsC, Value.ownBlock])⟩
 case round =>
  obtain ⟨i, a9, c9, us, hq, hi, rfl, rfl, rfl, hsep⟩ := hrel
  have HQ := Lib.hid hq
  have i4 : (0 : Int) ≤ (i : Int) := by omega
  obtain ⟨R, hR⟩ : ∃ R, R = accN l (s.take i) := ⟨_, rfl⟩
  rw [← hR] at hsep ⊢
  have hRl : R.length ≤ i := by
   rw [hR]
   have h2 := accN_le l (s.take i)
   have h3 := List.length_take_le i s
   omega
  have HR := Lib.hid hR
  have S := Lib.hid hsep
  have FW := Lib.hid (F2.out.trans hsep.frm (by simp))
  clear hq hsep hR
  by_cases hlt : i < s.length
  ·have i5 : (i : Int) < (s.length : Int) := by omega
   obtain ⟨v, hv⟩ : ∃ v, s[i]? = some v := ⟨_, List.getElem?_eq_getElem hlt⟩
   have hvl := HSL.out v (List.mem_of_getElem? hv)
   obtain ⟨row, hrow⟩ : ∃ row, l[v]? = some row := ⟨_, List.getElem?_eq_getElem hvl⟩
   obtain ⟨be, hbe⟩ : ∃ b, bs[v]? = some b := ⟨_, List.getElem?_eq_getElem (by rw [HDD.out.len]; exact hvl)⟩
   have hvr : VRow l.length row := HV.out.row row (List.mem_of_getElem? hrow)
   have hgd : l.getD v [] = row := by rw [List.getD_eq_getElem?_getD, hrow]; rfl
   have i7 : (0 : Int) ≤ (v : Int) := by omega
   have i8 : (v : Int) < (l.length : Int) := by omega
   obtain ⟨_, a', c', e', _, _, _, hcell⟩ := HS.out
   obtain ⟨rfl, rfl⟩ : sa = a' ∧ sc = c' := by simpa using e'
   obtain ⟨b, o, rfl, _, _, hc⟩ := hcell i (.int .i64 (v : Int)) (ints_get (natI_get hv))
   have k1 := FW.out.cell hc (by simp)
   have k2 := S.out.frm.cell (own_cell HO2.out rfl (show (bools bs)[v]? = some (.bool be) by rw [bools, List.getElem?_map, hbe]; rfl)) (by simp)
   have k0 := (B2.out.frm S.out.frm (by simp)).cell (i := 0) rfl
   obtain ⟨D, hD⟩ : ∃ D, D = anyD bs (s.take i) := ⟨_, rfl⟩
   have hD2 : anyD bs (s.take (i + 1)) = (D || be) := by rw [anyD_snoc hv, hbe, ← hD]; rfl
   rw [← hD]
   have hAN := accN_snoc (l := l) hv
   rw [hgd] at hAN
   obtain ⟨acc, hacc⟩ : ∃ acc, acc = (accF row).1 := ⟨_, rfl⟩
   obtain ⟨ok, hok⟩ : ∃ ok, ok = (accF row).2 := ⟨_, rfl⟩
   have HACC : Hid (∀ W, Frm [] wr W → Calls Tryz.prog 119 #[.agg #[.slice a l.length cap], .int .i64 (v : Int)] W fun e w' => ∃ a' cp, e = .returned (.tuple #[.slice a' acc.length cp, .bool ok]) ∧ OwnI W.heap.size w' a' cp acc ∧ Frm [] W w') := Lib.hid fun W hf => by
    have h1 := racc_any B a cap l (v : Int) W (HL0.out.nil (FW.out.trans hf (by simp)) rfl)
    rw [racc_at HVB.out hrow, ← hacc, ← hok] at h1
    exact h1
   rw [← hacc, ← hok, ← HR.out] at hAN
   have KEEP : Hid (∀ w', Frm [] wr w' → w'.cell? ⟨w.heap.size, 0, none⟩ = some (.slice a l.length cap) ∧ w'.cell? ⟨b, o + i, none⟩ = some (.int .i64 (v : Int))) := Lib.hid fun w' hf => ⟨hf.cell k0 (by simp), hf.cell k1 (by simp)⟩
   have HD2 := Lib.hid hD2
   have HAN := Lib.hid hAN
   clear hcell hc e' hv hrow hbe hvr hgd hD hacc hok hD2 hAN k0
   cases D
   all_goals
    simp only [Bool.true_or, Bool.false_or] at HD2
    go_wp2_with fail
    go_region_held3 (fun w' => w'.cell? ⟨w.heap.size, 0, none⟩ = some (.slice a l.length cap) ∧ w'.cell? ⟨b, o + i, none⟩ = some (.int .i64 (v : Int)))
     (first | exact KEEP.out _ (Frm.refl [] wr).drew | exact KEEP.out _ hy5)
     (first | (go_at_call 119; refine (HACC.out _ (Frm.refl [] wr).drew).mono ?_; rintro e5 w5 ⟨a5, c5, rfl, own5, hf5⟩; have hy5 := (Frm.refl [] wr).drew.trans hf5 (by simp)))
    have S5 := Lib.hid (S.out.add (ownC 3 1 (.slice a5 acc.length c5) acc.length (ints acc)) hy5 (ownC_of own5) (fun k hk => (own5.lt k (by simpa [ownC] using hk)).1))
    clear own5 hf5 hy5 k1 k2
    cases ok
    ·have HX : Hid (accN l (s.take (i + 1)) = R) := Lib.hid (by rw [HAN.out, if_neg (by simp)])
     go_wp2_with fail
     go_roundg (s.length - (i + 1))
     case rel =>
      refine ⟨i + 1, a9, c9, us, rfl, by omega, by go_num, by rw [HD2.out], ?_, ?_⟩
      ·rw [HX.out]
      ·rw [HX.out]
       exact S5.out.tail
     case measure => have := HQ.out; omega
    ·have HX : Hid (accN l (s.take (i + 1)) = R ++ [acc]) := Lib.hid (by rw [HAN.out, if_pos rfl])
     go_wp2_with (first
      | (at_builtin; refine app_row rfl (.tmp 42) (.tmp 44) 67 22 _ 1 24 rfl Tryz.underlying67 infoIs rfl (by decide) (by decide) 0 R.length (.slice a9 R.length c9) us rfl ((S5.out.nil ((Frm.refl [] w5).alloc (.cells #[.slice a5 acc.length c5] 22))).at_ 1 rfl).1 _ 1 [.slice a5 acc.length c5] [] rfl (rowV_cells (size := 1) (RowAt.made w5 22 [.slice a5 acc.length c5] #[.slice a5 acc.length c5] rfl) rfl (Nat.le_refl _) (by decide) (by simp)) (by simp [Value.oneCell']) (R.length + 1) rfl (by omega) (Nat.zero_le _) ?_; intro a11 c11 w11 own11 hf11 hb11; have S11 := Lib.hid ((S5.out.nil ((Frm.refl [] w5).alloc (.cells #[.slice a5 acc.length c5] 22))).snoc rfl rfl (by decide) rfl own11 rfl rfl hf11 (fun k hk => (hb11 k hk).imp id (fun e => Nat.le_of_eq e.symm))); clear own11 hf11 hb11)
      | fail)
     go_roundg (s.length - (i + 1))
     case rel =>
      have e9 : (R ++ [acc]).length = R.length + 1 := by simp
      refine ⟨i + 1, a11, c11, us ++ [.slice a5 acc.length c5], rfl, by omega, by go_num, by rw [HD2.out], ?_, ?_⟩
      ·rw [HX.out, e9]
      ·rw [HX.out, e9]
       exact S11.out
     case measure => have := HQ.out; omega
  ·have i5 : ¬ (i : Int) < (s.length : Int) := by omega
   have htk : s.take i = s := List.take_of_length_le (by omega)
   have hr9 := HR.out
   rw [htk] at hr9 ⊢
   rw [anyD_eq HDD.out HSL.out]
   have hrm := rmin_any F wr _ R (setsAt_of S.out (fun k hk => Nat.lt_of_lt_of_le (HFL.out k hk) F2.out.size)) (fun k hk => Nat.lt_of_lt_of_le (HFL.out k hk) FW.out.size) (by omega)
   unfold RMinEnd at hrm
   obtain ⟨M, hM⟩ : ∃ M, M = minL R := ⟨_, rfl⟩
   rw [← hM] at hrm
   have HM : Hid (M = minL (accN l s)) := Lib.hid (by rw [hM, hr9])
   have HRM := Lib.hid hrm
   have HR9 := Lib.hid hr9
   obtain ⟨Dv, hDv⟩ : ∃ D, D = divB l s := ⟨_, rfl⟩
   rw [← hDv]
   have HDV2 := Lib.hid hDv
   clear hrm hr9 htk hDv hM
   have hend : ∀ (A : List (List Int)) (D : Bool), labA l s m = A → labD l s m = D → ∀ e w', (∃ a c, e = .returned (.tuple #[.slice a A.length c, .bool D]) ∧ SetsAt w' F (.slice a A.length c) A) → Frm [] w w' → LabEnd w F l s m e w' := fun A D h1 h2 e w' h3 h4 => ⟨by rw [h1, h2]; exact h3, h4⟩
   have HEND := Lib.hid hend
   clear hend
   by_cases hm1 : m = 1
   ·subst hm1
    go_wp2_with fail
    go_ret2
    exact HEND.out [] false rfl rfl _ _ ⟨none, 0, rfl, sets_nil _ _⟩ FW.out
   ·have j1 : (m == 1) = false := by simpa using hm1
    by_cases hm2 : m = 2
    ·subst hm2
     clear hm1 j1
     go_wp2_with (first
      | (go_at_call 120; refine HRM.out.mono ?_; rintro e5 w5 ⟨⟨a5, c5, rfl, hs5⟩, hf5⟩)
      | fail)
     go_ret2
     exact HEND.out M false HM.out.symm rfl _ _ ⟨a5, c5, rfl, hs5⟩ (FW.out.trans hf5 (by simp))
    ·have j2 : (m == 2) = false := by simpa using hm2
     have HA : Hid (labA l s m = if Dv = true then [] else M) := Lib.hid (by rw [labA, if_neg hm1, if_neg hm2, HDV2.out, HM.out])
     have HB : Hid (labD l s m = Dv) := Lib.hid (by rw [labD, if_neg hm1, if_neg hm2, HDV2.out])
     clear hm1 hm2 HDV2
     cases Dv with
     | true =>
      go_wp2_with fail
      go_ret2
      exact HEND.out [] true HA.out HB.out _ _ ⟨none, 0, rfl, sets_nil _ _⟩ FW.out
     | false =>
      go_wp2_with (first
       | (go_at_call 120; refine HRM.out.mono ?_; rintro e5 w5 ⟨⟨a5, c5, rfl, hs5⟩, hf5⟩)
       | fail)
      go_ret2
      exact HEND.out M false HA.out HB.out _ _ ⟨a5, c5, rfl, hs5⟩ (FW.out.trans hf5 (by simp))
end Go.Proofs.YtikpcipkkhmcfaaGreat.Beh

/- The reference's entry, offered. -/
namespace Go.Proofs.YtikpcipkkhmcfaaGreat.Beh
open Go.Shelf Go.RowKit Go.Lib Go.Sort Go.Maps Go.Proofs.YtikpcipkkhmcfaaGreat Go.Proofs.YtikpcipkkhmcfaaGreat.Ind

def REntEnd (w : World) (F : List Nat) (l : Lts) (ta : Option Addr) (tn tc : Nat) (s : List Nat) (e : Ending) (w' : World) : Prop :=
 (∃ aa ac, e = .returned (.agg #[.slice ta tn tc, .slice aa (minL (accN l s)).length ac, .bool (divB l s)]) ∧ SetsAt w' F (.slice aa (minL (accN l s)).length ac) (minL (accN l s))) ∧ Frm [] w w'
set_option linter.unusedSimpArgs false in
set_option maxRecDepth 100000 in
set_option maxHeartbeats 8000000 in
theorem rentry_any (B : Nat) (F G : List Nat) (w : World) (a : Option Addr) (cap : Nat) (l : Lts) (ta : Option Addr) (tn tc : Nat) (sv : Value) (s : List Nat) (hv : validB l = true) (h0 : LAt B w a cap l) (hs : RowV w G sv s.length 1 (ints (natI s))) (hsl : ∀ v ∈ s, v < l.length) (hsn : s.length ≤ 16384) (hF : ∀ k ∈ F, k < w.heap.size) :
  Calls Tryz.prog 68 #[.agg #[.slice a l.length cap], .slice ta tn tc, sv] w (REntEnd w F l ta tn tc s) := by
 obtain ⟨sa, sc, rfl⟩ := RowV.shape hs
 have HLB : Hid (∀ (m : Int) (W : World), Frm [] w W → w.heap.size + 1 < W.heap.size → Calls Tryz.prog 98 #[.agg #[.slice a l.length cap], .slice sa s.length sc, .int .i64 m] W (LabEnd W ((w.heap.size + 1) :: F) l s m)) := Lib.hid fun m W hf hz => label_any B _ G W a cap l _ s m hv (h0.nil hf rfl) (hs.nil hf) hsl hsn (fun k hk => by
  rcases List.mem_cons.1 hk with rfl | hk
  ·exact hz
  ·exact Nat.lt_of_lt_of_le (hF k hk) hf.size)
 have S0 := ((Sep.start w).box w.heap.size rfl 25 [.slice a l.length cap] #[.slice a l.length cap] rfl).box (w.heap.size + 1) (by simp) 69 [.slice none 0 0, .slice none 0 0, .bool false] #[.slice none 0 0, .slice none 0 0, .bool false] rfl
 have HS0 := Lib.hid S0
 obtain ⟨M, hM⟩ : ∃ M, M = minL (accN l s) := ⟨_, rfl⟩
 obtain ⟨D, hD⟩ : ∃ D, D = divB l s := ⟨_, rfl⟩
 obtain ⟨M3, hM3⟩ : ∃ M3, M3 = labA l s 3 := ⟨_, rfl⟩
 have H2 : Hid (∀ (W : World), Frm [] w W → w.heap.size + 1 < W.heap.size → Calls Tryz.prog 98 #[.agg #[.slice a l.length cap], .slice sa s.length sc, .int .i64 2] W (fun e w' => (∃ a c, e = .returned (.tuple #[.slice a M.length c, .bool false]) ∧ SetsAt w' ((w.heap.size + 1) :: F) (.slice a M.length c) M) ∧ Frm [] W w')) := Lib.hid fun W hf hz => by
  rw [hM]
  exact HLB.out 2 W hf hz
 have H3 : Hid (∀ (W : World), Frm [] w W → w.heap.size + 1 < W.heap.size → Calls Tryz.prog 98 #[.agg #[.slice a l.length cap], .slice sa s.length sc, .int .i64 3] W (fun e w' => (∃ a c, e = .returned (.tuple #[.slice a M3.length c, .bool D]) ∧ SetsAt w' ((w.heap.size + 1) :: F) (.slice a M3.length c) M3) ∧ Frm [] W w')) := Lib.hid fun W hf hz => by
  rw [hM3, hD]
  exact HLB.out 3 W hf hz
 have HE : Hid (∀ e w', (∃ aa ac, e = .returned (.agg #[.slice ta tn tc, .slice aa M.length ac, .bool D]) ∧ SetsAt w' F (.slice aa M.length ac) M) → Frm [] w w' → REntEnd w F l ta tn tc s e w') := Lib.hid fun e w' h1 h2 => ⟨by rw [← hM, ← hD]; exact h1, h2⟩
 clear hs hsl h0 hv hF HLB hM hD hM3 S0
 go_enter Tryz.func68, Tryz.ntmps68
 go_wp2_with (first
  | (go_at_call 98; refine (H3.out _ S5.out.frm (S5.out.lt 0 rfl (by simp [boxC]))).mono ?_; rintro e6 w6 ⟨⟨a6, c6, rfl, -⟩, hf6⟩; have S6 := Lib.hid (S5.out.nil hf6); have A6 := Lib.hid (A5.out.nil hf6); have rr := (show RowAt w6 (w.heap.size + 1) 69 [.slice none 0 0, .slice none 0 0, .bool false] from S6.out.at_ 0 rfl); have y0 := rr.cell (i := 0) rfl; have y1 := rr.cell (i := 1) rfl; have y2 := rr.cell (i := 2) rfl; have v0 := rr.frozen 0; have v1 := rr.frozen 1; have v2 := rr.frozen 2; clear rr hf6)
  | (go_at_call 98; refine (H2.out _ HS0.out.frm (HS0.out.lt 0 rfl (by simp [boxC]))).mono ?_; rintro e5 w5 ⟨⟨a5, c5, rfl, hs5⟩, hf5⟩; have S5 := Lib.hid (HS0.out.nil hf5); have A5 := Lib.hid hs5; have x0 := (show RowAt w5 w.heap.size 25 [.slice a l.length cap] from S5.out.at_ 1 rfl).cell (i := 0) rfl; clear hs5 hf5)
  | fail)
 have SP := (((S6.out.putBox 0 rfl 0 (.slice ta tn tc)).putBox 0 rfl 1 (.slice a5 M.length c5)).putBox 0 rfl 2 (.bool D))
 simp only [List.set_cons_zero, List.set_cons_succ] at SP
 have hfs : Frm [w.heap.size + 1] w6 (((w6.setCell ⟨w.heap.size + 1, 0, none⟩ (.slice ta tn tc)).setCell ⟨w.heap.size + 1, 1, none⟩ (.slice a5 M.length c5)).setCell ⟨w.heap.size + 1, 2, none⟩ (.bool D)) := (((Frm.refl [w.heap.size + 1] w6).setCell (p := ⟨w.heap.size + 1, 0, none⟩) (.inl (by simp)) _).setCell (p := ⟨w.heap.size + 1, 1, none⟩) (.inl (by simp)) _).setCell (p := ⟨w.heap.size + 1, 2, none⟩) (.inl (by simp)) _
 have A9 := A6.out.step (F' := F) hfs (fun k hk => .inl (by rw [List.mem_singleton.1 hk]; simp)) (fun k hk => .inl (List.mem_cons_of_mem _ hk))
 clear hfs
 generalize World.setCell (World.setCell (World.setCell _ _ _) _ _) _ _ = W9 at *
 have rr : RowAt W9 (w.heap.size + 1) 69 [.slice ta tn tc, .slice a5 M.length c5, .bool D] := SP.at_ 0 rfl
 have e0 := rr.cell (i := 0) rfl
 have e1 := rr.cell (i := 1) rfl
 have e2 := rr.cell (i := 2) rfl
 refine bodyPost_ret (v := .agg #[.slice ta tn tc, .slice a5 M.length c5, .bool D]) (by simp [results, Tryz.results68, go_sem, e0, e1, e2]) rfl ?_
 exact HE.out _ _ ⟨a5, c5, rfl, A9⟩ SP.frm

def offB (l : Lts) (s : List Nat) (e : Int) : Bool := s.any fun v => (l.getD v []).any fun a => decide (a.1 = e)
theorem offB_iff {l : Lts} {s : List Nat} {e : Int} (he : e ≠ 0) : offB l s e = true ↔ e ∈ evN l s := by
 rw [offB, List.any_eq_true, mem_evN]
 constructor
 ·rintro ⟨v, hv, h⟩
  obtain ⟨a, ha, h⟩ := List.any_eq_true.1 h
  exact ⟨v, hv, mem_visR.2 ⟨he, a, ha, by simpa using h⟩⟩
 ·rintro ⟨v, hv, h⟩
  obtain ⟨_, a, ha, h⟩ := mem_visR.1 h
  exact ⟨v, hv, List.any_eq_true.2 ⟨a, ha, by simpa using h⟩⟩
set_option linter.unusedSimpArgs false in
set_option maxRecDepth 100000 in
set_option maxHeartbeats 4000000 in
theorem offered_any (B : Nat) (G : List Nat) (w : World) (a : Option Addr) (cap : Nat) (l : Lts) (sv : Value) (s : List Nat) (ev : Int) (hv : validB l = true) (h0 : LAt B w a cap l) (hs : RowV w G sv s.length 1 (ints (natI s))) (hsl : ∀ v ∈ s, v < l.length) :
  Calls Tryz.prog 69 #[.agg #[.slice a l.length cap], sv, .int .i64 ev] w fun e w' => e = .returned (.bool (offB l s ev)) ∧ Frm [] w w' := by
 obtain ⟨sa, sc, rfl⟩ := RowV.shape hs
 have HV := Lib.hid (vlts_of hv)
 have hfew := (vlts_of hv).few
 have i2 : (l.length : Int) ≤ 16384 := by omega
 have l1 := hs.rd.lt
 have F0 := Lib.hid ((Frm.refl [] w).alloc (.cells #[.slice a l.length cap] 25))
 have HB0 := Lib.hid (RowAt.made w 25 [.slice a l.length cap] #[.slice a l.length cap] rfl)
 have HL0 := Lib.hid h0
 have HS := Lib.hid hs
 have HSL := Lib.hid hsl
 clear h0 hs hsl hv
 go_enter Tryz.func69, Tryz.ntmps69
 go_wp2_with fail
 generalize w.alloc (.cells #[.slice a l.length cap] 25) = w1 at *
 go_loopg [7] s.length (fun q t wr => ∃ (i : Nat), q = s.length - i ∧ i ≤ s.length ∧ t = .int .i64 i ∧ (s.take i).any (fun v => (l.getD v []).any fun a => decide (a.1 = ev)) = false ∧ Frm [] w1 wr)
 case atStart => exact ⟨0, rfl, Nat.zero_le _, rfl, rfl, Frm.refl _ _⟩
 case round =>
  obtain ⟨i, hq, hi, rfl, hd, hF⟩ := hrel
  have HQ := Lib.hid hq
  have HF := Lib.hid hF
  have HD := Lib.hid hd
  have FW := Lib.hid (F0.out.trans hF (by simp))
  have i4 : (0 : Int) ≤ (i : Int) := by omega
  clear hq hF hd
  by_cases hlt : i < s.length
  ·have i5 : (i : Int) < (s.length : Int) := by omega
   obtain ⟨c, hc⟩ : ∃ c, s[i]? = some c := ⟨_, List.getElem?_eq_getElem hlt⟩
   have hcl := HSL.out c (List.mem_of_getElem? hc)
   obtain ⟨row, hrow⟩ : ∃ row, l[c]? = some row := ⟨_, List.getElem?_eq_getElem hcl⟩
   have hgd : l.getD c [] = row := by rw [List.getD_eq_getElem?_getD, hrow]; rfl
   have hnx := any_next (p := fun v => (l.getD v []).any fun a => decide (a.1 = ev)) hc
   rw [HD.out, Bool.false_or, hgd] at hnx
   have HNX := Lib.hid hnx
   have HANY : Hid (row.any (fun a => decide (a.1 = ev)) = true → offB l s ev = true) := Lib.hid fun h => List.any_eq_true.2 ⟨c, List.mem_of_getElem? hc, by rw [hgd]; exact h⟩
   obtain ⟨bl, ol, ra, rc, hla, hblB, q1, hrr⟩ := HL0.out.cell c row hrow
   have hla' := hla
   subst hla'
   have hfewr := (HV.out.row row (List.mem_of_getElem? hrow)).few
   have i6 : (row.length : Int) ≤ 262144 := by omega
   have i7 : (0 : Int) ≤ (c : Int) := by omega
   have i8 : (c : Int) < (l.length : Int) := by omega
   obtain ⟨_, a', c', e', _, _, _, hcell⟩ := HS.out
   obtain ⟨rfl, rfl⟩ : sa = a' ∧ sc = c' := by simpa using e'
   obtain ⟨b, o, rfl, _, _, hc0⟩ := hcell i (.int .i64 (c : Int)) (ints_get (natI_get hc))
   have HRR := Lib.hid hrr
   have K1 := Lib.hid (FW.out.cell hc0 (by simp))
   have K2 := Lib.hid (FW.out.cell q1 (by simp))
   clear hcell hc0 e' hc hrow hgd hnx hrr q1 hla
   obtain ⟨wx, hwx⟩ : ∃ wx, wx = wr := ⟨wr, rfl⟩
   rw [← hwx] at HF FW K1 K2 ⊢
   clear hwx
   go_wp2_with fail
   go_loopg [8] row.length (fun q t wr => ∃ (j : Nat), q = row.length - j ∧ j ≤ row.length ∧ t = .int .i64 j ∧ (row.take j).any (fun a => decide (a.1 = ev)) = false ∧ Frm [] wx wr)
   case atStart => exact ⟨0, rfl, Nat.zero_le _, rfl, rfl, Frm.refl _ _⟩
   case round =>
    obtain ⟨j, hq2, hj, rfl, hd2, hF2⟩ := hrel
    have HQ2 := Lib.hid hq2
    have HF2 := Lib.hid hF2
    have HD2 := Lib.hid hd2
    have i9 : (0 : Int) ≤ (j : Int) := by omega
    have k0 := (HB0.out.frm (HF.out.trans HF2.out (by simp)) (by simp)).cell (i := 0) rfl
    have k1 := HF2.out.cell K1.out (by simp)
    have k2 := HF2.out.cell K2.out (by simp)
    clear hq2 hF2 hd2
    by_cases hjl : j < row.length
    ·have i10 : (j : Int) < (row.length : Int) := by omega
     obtain ⟨⟨e, t⟩, harc⟩ : ∃ y, row[j]? = some y := ⟨_, List.getElem?_eq_getElem hjl⟩
     obtain ⟨g3, o3, rfl, hg3, p1, p2⟩ := HRR.out.2.2.2 j e t harc
     have d1 := HF2.out.cell (FW.out.cell p1 (by simp)) (by simp)
     have hnx := any_next (p := fun a : Arc => decide (a.1 = ev)) harc
     rw [HD2.out, Bool.false_or] at hnx
     by_cases he : e = ev
     ·subst he
      have HR : Hid (offB l s e = true) := Lib.hid (HANY.out (any_at harc (by simp)))
      clear hnx harc p1 p2
      go_wp2_with fail
      go_quiet (fail)
      go_wp2_with fail
      go_quiet (fail)
      go_wp2_with fail
      go_ret
      exact ⟨by rw [HR.out]; rfl, ((FW.out.trans HF2.out (by simp)).drewN _).drewN _⟩
     ·have jn : (e == ev) = false := by simpa using he
      have HA : Hid ((row.take (j + 1)).any (fun a => decide (a.1 = ev)) = false) := Lib.hid (by rw [hnx]; simpa using he)
      clear hnx harc p1 p2 he
      go_wp2_with fail
      go_quiet (fail)
      go_wp2_with fail
      go_quiet (fail)
      go_wp2_with fail
      go_roundg (row.length - (j + 1))
      case rel => exact ⟨j + 1, rfl, hjl, by go_num, HA.out, HF2.out.drewN _⟩
      case measure => have := HQ2.out; omega
    ·have i10 : ¬ (j : Int) < (row.length : Int) := by omega
     have HA : Hid ((s.take (i + 1)).any (fun v => (l.getD v []).any fun a => decide (a.1 = ev)) = false) := Lib.hid (by
      rw [HNX.out]
      have := HD2.out
      rw [List.take_of_length_le (by omega)] at this
      exact this)
     go_wp2_with fail
     go_quiet (fail)
     go_wp2_with fail
     go_roundg (s.length - (i + 1))
     case rel => exact ⟨i + 1, rfl, hlt, by go_num, HA.out, (HF.out.trans HF2.out (by simp)).drewN _⟩
     case measure => have := HQ.out; omega
  ·have i5 : ¬ (i : Int) < (s.length : Int) := by omega
   have HR : Hid (offB l s ev = false) := Lib.hid (by
    have := HD.out
    rw [List.take_of_length_le (by omega)] at this
    exact this)
   go_wp2_with fail
   go_ret
   exact ⟨by rw [HR.out]; rfl, FW.out⟩
end Go.Proofs.YtikpcipkkhmcfaaGreat.Beh

/- The state of the reference's Of in memory. (Cut from VS: no Walker.) -/
namespace Go.Proofs.YtikpcipkkhmcfaaGreat.Beh
open Go.Shelf Go.RowKit Go.Lib Go.Sort Go.Maps Go.Proofs.YtikpcipkkhmcfaaGreat Go.Proofs.YtikpcipkkhmcfaaGreat.Ind

/-- The blocks that may turn. -/
def blkR (F : List Nat) (v8 v9 : Value) : List Nat := F ++ (v8.ownBlock.toList ++ v9.ownBlock.toList)
theorem mem_blkR {F : List Nat} {v8 v9 : Value} {k : Nat} : k ∈ blkR F v8 v9 ↔ k ∈ F ∨ v8.ownBlock = some k ∨ v9.ownBlock = some k := by
 simp [blkR]
structure OfR (w0 : World) (F : List Nat) (sl : List (List Nat)) (el : List En) (v8 v9 : Value) (wr : World) : Prop where
 frm : Frm [] w0 wr
 ents : ∃ ps : List EV, ps.map (·.2) = el ∧ wr.ownsRow w0.heap.size 69 3 v9 el.length (ps.flatMap enE) ∧ ∀ p ∈ ps, EntAt wr (blkR F v8 v9) p
 sets : ∃ qs : List PV, qs.map (·.2) = sl.map natI ∧ wr.ownsRow w0.heap.size 22 1 v8 sl.length (qs.map (·.1)) ∧ PsAt wr (blkR F v8 v9) qs
 low : ∀ k ∈ F, k < w0.heap.size
section
variable {w0 : World} {F : List Nat} {sl : List (List Nat)} {el : List En} {v8 v9 : Value} {wr w' : World}
theorem OfR.blt (h : OfR w0 F sl el v8 v9 wr) : ∀ k ∈ blkR F v8 v9, k < wr.heap.size := by
 intro k hk
 have hs := h.frm.size
 have h1 := h.low
 obtain ⟨_, _, h8, _⟩ := h.sets
 obtain ⟨_, _, h9, _⟩ := h.ents
 rcases mem_blkR.1 hk with hk | hk | hk
 ·have := h1 k hk; omega
 ·exact (h8.lt k hk).2
 ·exact (h9.lt k hk).2
theorem OfR.keep (h : OfR w0 F sl el v8 v9 wr) (hf : Frm [] wr w') : OfR w0 F sl el v8 v9 w' := by
 obtain ⟨ps, e1, e2, e3⟩ := h.ents
 obtain ⟨qs, s1, s2, s3⟩ := h.sets
 exact ⟨h.frm.trans hf (by simp), ⟨ps, e1, ownsB_frm e2 hf (by simp), fun p hp => (e3 p hp).nil hf⟩, ⟨qs, s1, ownsB_frm s2 hf (by simp), s3.nil hf⟩, h.low⟩
theorem OfR.ne8 (h : OfR w0 F sl el v8 v9 wr) {k : Nat} (hk : v8.ownBlock = some k) : v9.ownBlock ≠ some k := by
 obtain ⟨qs, s1, s2, s3⟩ := h.sets
 obtain ⟨ps, e1, e2, e3⟩ := h.ents
 exact fun e => owns_ne s2 e2 (by decide) hk e rfl
theorem OfR.ne9 (h : OfR w0 F sl el v8 v9 wr) {k : Nat} (hk : v9.ownBlock = some k) : v8.ownBlock ≠ some k := by
 obtain ⟨qs, s1, s2, s3⟩ := h.sets
 obtain ⟨ps, e1, e2, e3⟩ := h.ents
 exact fun e => owns_ne e2 s2 (by decide) hk e rfl
/-- One more set. -/
theorem OfR.set (h : OfR w0 F sl el v8 v9 wr) {N : Nat} {u v8' : Value} {x : List Nat} (qs : List PV) (s1 : qs.map (·.2) = sl.map natI) (s3 : PsAt wr (blkR F v8 v9) qs) (hf : Frm v8.ownBlock.toList wr w') (hN : N = sl.length + 1) (hown : w'.ownsRow w0.heap.size 22 1 v8' N (qs.map (·.1) ++ [u])) (hb : ∀ k, v8'.ownBlock = some k → v8.ownBlock = some k ∨ k = wr.heap.size) (hu : RowV wr (blkR F v8 v9) u x.length 1 (ints (natI x))) : OfR w0 F (sl ++ [x]) el v8' v9 w' := by
 obtain ⟨ps, e1, e2, e3⟩ := h.ents
 obtain ⟨_, _, s2, _⟩ := h.sets
 subst hN
 have hfp : ∀ k ∈ v8.ownBlock.toList, k ∈ blkR F v8 v9 ∨ wr.heap.size ≤ k := fun k hk => .inl (mem_blkR.2 (by simp at hk; simp [hk]))
 have hF' : ∀ k ∈ blkR F v8' v9, k ∈ blkR F v8 v9 ∨ wr.heap.size ≤ k := fun k hk => by
  rcases mem_blkR.1 hk with h1 | h1 | h1
  ·exact .inl (mem_blkR.2 (.inl h1))
  ·rcases hb k h1 with h2 | h2
   ·exact .inl (mem_blkR.2 (.inr (.inl h2)))
   ·exact .inr (Nat.le_of_eq h2.symm)
  ·exact .inl (mem_blkR.2 (.inr (.inr h1)))
 refine ⟨h.frm.trans hf (fun k hk => .inr (s2.lt k (by simpa using hk)).1), ⟨ps, e1, ownsB_frm e2 hf (fun k hk hm => h.ne9 hk (by simpa using hm)), fun p hp => (e3 p hp).step hf hfp hF'⟩, ⟨qs ++ [(u, natI x)], by simp [s1], by simpa using hown, fun q hq => ?_⟩, h.low⟩
 rcases List.mem_append.1 hq with hq | hq
 ·exact (s3 q hq).step hf hfp hF'
 ·rw [List.mem_singleton.1 hq]
  have := hu.step hf hfp hF'
  rw [natI_len]
  exact this
/-- One more entry. -/
theorem OfR.ent (h : OfR w0 F sl el v8 v9 wr) {N : Nat} {v9' : Value} {p : EV} (ps : List EV) (e1 : ps.map (·.2) = el) (e3 : ∀ p ∈ ps, EntAt wr (blkR F v8 v9) p) (hf : Frm v9.ownBlock.toList wr w') (hN : N = el.length + 1) (hown : w'.ownsRow w0.heap.size 69 3 v9' N (ps.flatMap enE ++ enE p)) (hb : ∀ k, v9'.ownBlock = some k → v9.ownBlock = some k ∨ k = wr.heap.size) (hp : EntAt wr (blkR F v8 v9) p) : OfR w0 F sl (el ++ [p.2]) v8 v9' w' := by
 obtain ⟨_, _, e2, _⟩ := h.ents
 obtain ⟨qs, s1, s2, s3⟩ := h.sets
 subst hN
 have hfp : ∀ k ∈ v9.ownBlock.toList, k ∈ blkR F v8 v9 ∨ wr.heap.size ≤ k := fun k hk => .inl (mem_blkR.2 (by simp at hk; simp [hk]))
 have hF' : ∀ k ∈ blkR F v8 v9', k ∈ blkR F v8 v9 ∨ wr.heap.size ≤ k := fun k hk => by
  rcases mem_blkR.1 hk with h1 | h1 | h1
  ·exact .inl (mem_blkR.2 (.inl h1))
  ·exact .inl (mem_blkR.2 (.inr (.inl h1)))
  ·rcases hb k h1 with h2 | h2
   ·exact .inl (mem_blkR.2 (.inr (.inr h2)))
   ·exact .inr (Nat.le_of_eq h2.symm)
 refine ⟨h.frm.trans hf (fun k hk => .inr (e2.lt k (by simpa using hk)).1), ⟨ps ++ [p], by simp [e1], by simpa using hown, fun q hq => ?_⟩, ⟨qs, s1, ownsB_frm s2 hf (fun k hk hm => h.ne8 hk (by simpa using hm)), s3.step hf hfp hF'⟩, h.low⟩
 rcases List.mem_append.1 hq with hq | hq
 ·exact (e3 q hq).step hf hfp hF'
 ·rw [List.mem_singleton.1 hq]
  exact hp.step hf hfp hF'
/-- The entries, when all is done. -/
theorem OfR.beh (h : OfR w0 F sl el v8 v9 wr) : BehAt wr F v9 el := by
 obtain ⟨ps, e1, e2, e3⟩ := h.ents
 refine ⟨ps, e1, rowV_of_owns e2 (fun k hk e => ?_), fun p hp => (e3 p hp).less (fun k hk => mem_blkR.2 (.inl hk))⟩
 have h1 := (e2.lt k e).1
 have h2 := h.low k hk
 omega
/-- Set i. -/
theorem OfR.set_at (h : OfR w0 F sl el v8 v9 wr) {i : Nat} {x : List Nat} (hx : sl[i]? = some x) : ∃ g c xa xc, v8 = .slice (some ⟨g, 0, none⟩) sl.length c ∧ sl.length ≤ c ∧ wr.cell? ⟨g, i, none⟩ = some (.slice xa x.length xc) ∧ RowV wr (blkR F v8 v9) (.slice xa x.length xc) x.length 1 (ints (natI x)) := by
 obtain ⟨qs, s1, s2, s3⟩ := h.sets
 obtain ⟨q, hq, hqx⟩ : ∃ q, qs[i]? = some q ∧ q.2 = natI x := by
  have := congrArg (fun l => l[i]?) s1
  simp only [List.getElem?_map, hx, Option.map_some] at this
  cases hq : qs[i]? with
  | none => rw [hq] at this; cases this
  | some q => rw [hq] at this; exact ⟨q, rfl, by simpa using this⟩
 have hl : qs.length = sl.length := by have := congrArg List.length s1; simpa using this
 have hpos : 0 < sl.length := by have := (List.getElem?_eq_some_iff.1 hx).1; omega
 have hr := s3 q (List.mem_of_getElem? hq)
 rw [hqx, natI_len] at hr
 obtain ⟨xa, xc, e⟩ := hr.shape
 obtain ⟨g, c, e', _, hc, _, hrow⟩ := ownsB_some s2 hpos
 rw [e] at hr
 exact ⟨g, c, xa, xc, e', hc, (hrow.cell (i := i) (by rw [List.getElem?_map, hq]; rfl)).trans (congrArg some e), hr⟩
/-- Entry i: its trace. -/
theorem OfR.ent_at (h : OfR w0 F sl el v8 v9 wr) {i : Nat} {x : En} (hx : el[i]? = some x) : ∃ g c ta tc, v9 = .slice (some ⟨g, 0, none⟩) el.length c ∧ el.length ≤ c ∧ wr.cell? ⟨g, i * 3, none⟩ = some (.slice ta x.1.length tc) ∧ RowV wr (blkR F v8 v9) (.slice ta x.1.length tc) x.1.length 1 (ints x.1) := by
 obtain ⟨ps, s1, s2, s3⟩ := h.ents
 obtain ⟨q, hq, hqx⟩ : ∃ q, ps[i]? = some q ∧ q.2 = x := by
  have := congrArg (fun l => l[i]?) s1
  simp only [List.getElem?_map, hx] at this
  cases hq : ps[i]? with
  | none => rw [hq] at this; cases this
  | some q => rw [hq] at this; exact ⟨q, rfl, by simpa using this⟩
 have hpos : 0 < el.length := by have := (List.getElem?_eq_some_iff.1 hx).1; omega
 have hr := (s3 q (List.mem_of_getElem? hq)).1
 rw [hqx] at hr
 obtain ⟨xa, xc, e⟩ := hr.shape
 obtain ⟨g, c, e', _, hc, _, hrow⟩ := ownsB_some s2 hpos
 rw [e] at hr
 have g0 := flat3_get hq 0 (by decide)
 rw [Nat.add_zero] at g0
 exact ⟨g, c, xa, xc, e', hc, (hrow.cell (i := i * 3) (by rw [g0]; rfl)).trans (congrArg some e), hr⟩
end
end Go.Proofs.YtikpcipkkhmcfaaGreat.Beh
