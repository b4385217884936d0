/- Texts AA, AB, AC. -/
import Derived.Test.YtikpcipkkhmcfaaGreatQ13
import Derived.Test.YtikpcipkkhmcfaaGreatQ14
import Derived.Maps.AppendAt
import Derived.Test.YtikpcipkkhmcfaaGreatQ10
/- Merged text: W1, W3 of the notes. -/
/- The search for components in memory. -/
namespace Go.Proofs.YtikpcipkkhmcfaaGreat
open Go.RowKit

/-- append of one element to a row that the call owns; where the row lies behind it. -/
theorem wpl_app_at {w : World} {ops : Array Oper} {rest : List Oper} {o : Oper} {a : Act} {Q : Exit → Act → World → Prop} (hgd : o.guard = none) (s x : Operand) (t e : TypeId) (z : Value) (size bytes : Nat)
  (ht : Tryz.prog.underlying t = some (.slice e)) (hinfo : (Tryz.prog.info? e).map (fun i => (i.zero, i.size, i.bytes)) = some (some z, size, bytes)) (hzs : z.cells.size = size) (hsz : 0 < size)
  (ho : o.op = .call { callee := .builtin .append, args := #[s, x], argTypes := #[t, t] })
  (B n N : Nat) (v : Value) (xs : List Value) (hs : a.eval s = v) (hown : w.ownsRow B e size v n xs) (ad : Addr) (c : Nat) (news : List Value) (hx : a.eval x = .slice (some ad) 1 c) (hl : news.length = size)
  (hnews : ∀ (j : Nat) (u : Value), news[j]? = some u → w.cell? (ad.add j) = some u) (h1 : ∀ u ∈ news, u.oneCell' = true) (hN : n + 1 = N) (hb : N ≤ 4000000) (hby : bytes ≤ 1000) (hB : B ≤ w.heap.size)
  (h : ∀ g cp w', w'.ownsRow B e size (.slice (some ⟨g, 0, none⟩) N cp) N (xs ++ news) → Frm v.ownBlock.toList w w' → (v.ownBlock = some g ∨ g = w.heap.size) → wpList Tryz.prog ops Q rest (a.put o.dst (.slice (some ⟨g, 0, none⟩) N cp)) w') : wpList Tryz.prog ops Q (o :: rest) a w := by
 obtain ⟨i0, hi, hz0, hz1, hz2⟩ := info_parts hinfo
 subst hN
 refine wpList_plain hgd fun K hK => ?_
 obtain ⟨v', w', hr, h2, h3, h4, h5⟩ := run_append_own_at (P := Tryz.prog) w B t o.type e i0 z size bytes ht hi hz0 hz1 hz2 hzs hsz v n xs hown ad 1 c news (by omega) hnews h1 (by unfold maxLen; omega) (by
  have : (n + 1) * bytes ≤ 4000000 * 1000 := Nat.mul_le_mul hb hby
  omega) hB
 unfold Oper.wp execOp
 simp only [ho, resolve, invoke, builtin, Sem.run_bind, Sem.run_pure, Result.andThen_ok, List.map_toArray, List.map_cons, List.map_nil, hs, hx, hr]
 obtain ⟨g, cp, rfl⟩ : ∃ g cp, v' = .slice (some (⟨g, 0, none⟩ : Addr)) (n + 1) cp := by
  rcases h2.2 with ⟨_, h6⟩ | ⟨g, cp, cur, h6, _⟩
  ·omega
  ·exact ⟨g, cp, h6⟩
 refine hK _ _ (h g cp w' h2 ((Frm.refl _ _).grown h3 (fun k hk => .inl (by simp [hk]))) ?_)
 rcases h5 with h5 | h5
 ·exact .inl (by rw [← h5]; rfl)
 ·right
  simpa [Value.ownBlock] using h5

theorem infoVisit : (Tryz.prog.info? 127).map (fun i => (i.zero, i.size, i.bytes)) = some (some (.agg #[.int .i64 0, .int .i64 0]), 2, 16) := by kernel_rfl

def flatV (pm : List (Nat × Nat)) : List Value := pm.flatMap fun q => [.int .i64 (q.1 : Int), .int .i64 (q.2 : Int)]
theorem flatV_len (pm : List (Nat × Nat)) : (flatV pm).length = pm.length * 2 := by
 induction pm with
 | nil => rfl
 | cons a r ih => simp only [flatV, List.flatMap_cons, List.length_append, List.length_cons, List.length_nil] at ih ⊢; omega
theorem flatV_app (p q : List (Nat × Nat)) : flatV (p ++ q) = flatV p ++ flatV q := by simp [flatV]
theorem flatV_top (p : List (Nat × Nat)) (s k : Nat) : (flatV (p ++ [(s, k)]))[p.length * 2]? = some (.int .i64 (s : Int)) ∧ (flatV (p ++ [(s, k)]))[p.length * 2 + 1]? = some (.int .i64 (k : Int)) := by
 rw [flatV_app]
 constructor
 ·rw [List.getElem?_append_right (by rw [flatV_len]; omega), flatV_len, Nat.sub_self]; rfl
 ·rw [List.getElem?_append_right (by rw [flatV_len]; omega), flatV_len, Nat.add_sub_cancel_left]; rfl
theorem flatV_set (p : List (Nat × Nat)) (s k j : Nat) : (flatV (p ++ [(s, k)])).set (p.length * 2 + 1) (.int .i64 (j : Int)) = flatV (p ++ [(s, j)]) := by
 rw [flatV_app, flatV_app, List.set_append_right _ _ (by rw [flatV_len]; omega), flatV_len, Nat.add_sub_cancel_left]
 rfl
def natI (xs : List Nat) : List Int := xs.map fun x : Nat => (x : Int)
theorem natI_len (xs : List Nat) : (natI xs).length = xs.length := by simp [natI]
theorem natI_get {xs : List Nat} {i x : Nat} (h : xs[i]? = some x) : (natI xs)[i]? = some (x : Int) := by simp [natI, h]

theorem owns_prefix {w : World} {B e size n cap m : Nat} {a : Option Addr} {xs : List Value} (h : w.ownsRow B e size (.slice a n cap) n xs) (hm : m ≤ n) (ha : a ≠ none) : w.ownsRow B e size (.slice a m cap) m (xs.take (m * size)) := by
 have hlen := h.1
 have hms : m * size ≤ n * size := Nat.mul_le_mul_right _ hm
 refine ⟨by rw [List.length_take]; omega, ?_⟩
 rcases h.2 with ⟨h0, _⟩ | ⟨g, cp, cur, h0, hb, hg, h1, h2, h3, h4⟩
 ·cases h0; exact absurd rfl ha
 ·obtain ⟨rfl, rfl⟩ : a = some ⟨g, 0, none⟩ ∧ cap = cp := by simpa using h0
  refine .inr ⟨g, cap, cur, rfl, hb, hg, by omega, h2, h3, ?_⟩
  rw [← h4, List.take_take, Nat.min_eq_left hms]

/-- The search in memory: the blocks of the three rows, the path, the open states. -/
structure TRep (B n : Nat) (w : World) (gi gl go : Nat) (vp vo : Value) (idx low out : List Int) (opn : List Nat) (pm : List (Nat × Nat)) : Prop where
 ri : w.ownsRow B 3 1 (.slice (some ⟨gi, 0, none⟩) n n) n (ints idx)
 rl : w.ownsRow B 3 1 (.slice (some ⟨gl, 0, none⟩) n n) n (ints low)
 ro : w.ownsRow B 3 1 (.slice (some ⟨go, 0, none⟩) n n) n (ints out)
 rp : w.ownsRow B 127 2 vp pm.length (flatV pm)
 rn : w.ownsRow B 3 1 vo opn.length (ints (natI opn))
 d1 : gi ≠ gl
 d2 : gi ≠ go
 d3 : gl ≠ go
 d4 : ∀ k, vp.ownBlock = some k → k ≠ gi ∧ k ≠ gl ∧ k ≠ go ∧ vo.ownBlock ≠ some k
 d5 : ∀ k, vo.ownBlock = some k → k ≠ gi ∧ k ≠ gl ∧ k ≠ go

theorem TRep.alloc {B n : Nat} {w : World} {gi gl go : Nat} {vp vo : Value} {idx low out : List Int} {opn : List Nat} {pm : List (Nat × Nat)} (h : TRep B n w gi gl go vp vo idx low out opn pm) (o : Obj) : TRep B n (w.alloc o) gi gl go vp vo idx low out opn pm :=
 ⟨h.ri.alloc o, h.rl.alloc o, h.ro.alloc o, h.rp.alloc o, h.rn.alloc o, h.d1, h.d2, h.d3, h.d4, h.d5⟩
theorem TRep.drew {B n : Nat} {w : World} {gi gl go : Nat} {vp vo : Value} {idx low out : List Int} {opn : List Nat} {pm : List (Nat × Nat)} (h : TRep B n w gi gl go vp vo idx low out opn pm) : TRep B n w.drew gi gl go vp vo idx low out opn pm :=
 ⟨h.ri, h.rl, h.ro, h.rp, h.rn, h.d1, h.d2, h.d3, h.d4, h.d5⟩
theorem TRep.drewN {B n : Nat} {w : World} {gi gl go : Nat} {vp vo : Value} {idx low out : List Int} {opn : List Nat} {pm : List (Nat × Nat)} (h : TRep B n w gi gl go vp vo idx low out opn pm) (k : Nat) : TRep B n (w.drewN k) gi gl go vp vo idx low out opn pm :=
 ⟨h.ri, h.rl, h.ro, h.rp, h.rn, h.d1, h.d2, h.d3, h.d4, h.d5⟩
theorem TRep.nil {B n : Nat} {w w' : World} {gi gl go : Nat} {vp vo : Value} {idx low out : List Int} {opn : List Nat} {pm : List (Nat × Nat)} (h : TRep B n w gi gl go vp vo idx low out opn pm) (hf : Frm [] w w') : TRep B n w' gi gl go vp vo idx low out opn pm :=
 ⟨ownsB_frm h.ri hf (by simp), ownsB_frm h.rl hf (by simp), ownsB_frm h.ro hf (by simp), ownsB_frm h.rp hf (by simp), ownsB_frm h.rn hf (by simp), h.d1, h.d2, h.d3, h.d4, h.d5⟩

theorem ob {g n c : Nat} : (Value.slice (some ⟨g, 0, none⟩) n c).ownBlock = some g := rfl
theorem own_set {w : World} {B e size n cap g p i : Nat} {xs : List Value} {u : Value} (h : w.ownsRow B e size (.slice (some ⟨g, 0, none⟩) n cap) n xs) (hp : p ≠ g) : (w.setCell ⟨p, i, none⟩ u).ownsRow B e size (.slice (some ⟨g, 0, none⟩) n cap) n xs :=
 own_frm_out h ((Frm.refl [p] w).setCell (.inl (by simp)) u) (by simp; omega)
theorem own_setv {w : World} {B e size n p i : Nat} {v : Value} {xs : List Value} {u : Value} (h : w.ownsRow B e size v n xs) (hp : ∀ k, v.ownBlock = some k → k ≠ p) : (w.setCell ⟨p, i, none⟩ u).ownsRow B e size v n xs :=
 ownsB_frm h ((Frm.refl [p] w).setCell (.inl (by simp)) u) (fun k hk hm => hp k hk (by simpa using hm))

theorem TRep.setIdx {B n : Nat} {w : World} {gi gl go : Nat} {vp vo : Value} {idx low out : List Int} {opn : List Nat} {pm : List (Nat × Nat)} (h : TRep B n w gi gl go vp vo idx low out opn pm) (i : Nat) (x : Int) : TRep B n (w.setCell ⟨gi, i, none⟩ (.int .i64 x)) gi gl go vp vo (idx.set i x) low out opn pm :=
 ⟨by rw [ints_set]; exact ownsB_setCellG h.ri rfl i _, own_set h.rl h.d1, own_set h.ro h.d2, own_setv h.rp (fun k hk => (h.d4 k hk).1), own_setv h.rn (fun k hk => (h.d5 k hk).1), h.d1, h.d2, h.d3, h.d4, h.d5⟩
theorem TRep.setLow {B n : Nat} {w : World} {gi gl go : Nat} {vp vo : Value} {idx low out : List Int} {opn : List Nat} {pm : List (Nat × Nat)} (h : TRep B n w gi gl go vp vo idx low out opn pm) (i : Nat) (x : Int) : TRep B n (w.setCell ⟨gl, i, none⟩ (.int .i64 x)) gi gl go vp vo idx (low.set i x) out opn pm :=
 ⟨own_set h.ri (fun e => h.d1 e.symm), by rw [ints_set]; exact ownsB_setCellG h.rl rfl i _, own_set h.ro h.d3, own_setv h.rp (fun k hk => (h.d4 k hk).2.1), own_setv h.rn (fun k hk => (h.d5 k hk).2.1), h.d1, h.d2, h.d3, h.d4, h.d5⟩

/-- An open state is appended. -/
theorem TRep.appOpn {B n : Nat} {w w' : World} {gi gl go g cp : Nat} {vp vo : Value} {idx low out : List Int} {opn : List Nat} {pm : List (Nat × Nat)} (h : TRep B n w gi gl go vp vo idx low out opn pm) (t : Nat)
  (ho : w'.ownsRow B 3 1 (.slice (some ⟨g, 0, none⟩) (opn.length + 1) cp) (opn.length + 1) (ints (natI opn) ++ [.int .i64 (t : Int)])) (hf : Frm vo.ownBlock.toList w w') (hg : vo.ownBlock = some g ∨ w.heap.size ≤ g) :
  TRep B n w' gi gl go vp (.slice (some ⟨g, 0, none⟩) (opn ++ [t]).length cp) idx low out (opn ++ [t]) pm := by
 have hni : ∀ q ∈ vo.ownBlock.toList, q ≠ gi ∧ q ≠ gl ∧ q ≠ go := fun q hq => h.d5 q (by simpa using hq)
 have hlen : (opn ++ [t]).length = opn.length + 1 := by simp
 refine ⟨own_frm_out h.ri hf (fun hm => (hni _ hm).1 rfl), own_frm_out h.rl hf (fun hm => (hni _ hm).2.1 rfl), own_frm_out h.ro hf (fun hm => (hni _ hm).2.2 rfl), ownsB_frm h.rp hf (fun k hk hm => (h.d4 k hk).2.2.2 (by simpa using hm)), ?_, h.d1, h.d2, h.d3, fun k hk => ?_, fun k hk => ?_⟩
 ·rw [hlen, natI, List.map_append, ints_app]; exact ho
 ·refine ⟨(h.d4 k hk).1, (h.d4 k hk).2.1, (h.d4 k hk).2.2.1, fun e => ?_⟩
  rw [ob, Option.some.injEq] at e
  subst e
  rcases hg with hg | hg
  ·exact (h.d4 _ hk).2.2.2 hg
  ·have := (h.rp.lt _ hk).2; omega
 ·rw [ob, Option.some.injEq] at hk
  subst hk
  rcases hg with hg | hg
  ·exact h.d5 _ hg
  ·have h1 := (h.ri.lt gi rfl).2
   have h2 := (h.rl.lt gl rfl).2
   have h3 := (h.ro.lt go rfl).2
   omega

/-- A state is put on the path. -/
theorem TRep.appPath {B n : Nat} {w w' : World} {gi gl go g cp : Nat} {vp vo : Value} {idx low out : List Int} {opn : List Nat} {pm : List (Nat × Nat)} (h : TRep B n w gi gl go vp vo idx low out opn pm) (t : Nat)
  (ho : w'.ownsRow B 127 2 (.slice (some ⟨g, 0, none⟩) (pm.length + 1) cp) (pm.length + 1) (flatV pm ++ [.int .i64 (t : Int), .int .i64 0])) (hf : Frm vp.ownBlock.toList w w') (hg : vp.ownBlock = some g ∨ w.heap.size ≤ g) :
  TRep B n w' gi gl go (.slice (some ⟨g, 0, none⟩) (pm ++ [(t, 0)]).length cp) vo idx low out opn (pm ++ [(t, 0)]) := by
 have hni : ∀ q ∈ vp.ownBlock.toList, q ≠ gi ∧ q ≠ gl ∧ q ≠ go ∧ vo.ownBlock ≠ some q := fun q hq => h.d4 q (by simpa using hq)
 have hlen : (pm ++ [(t, 0)]).length = pm.length + 1 := by simp
 refine ⟨own_frm_out h.ri hf (fun hm => (hni _ hm).1 rfl), own_frm_out h.rl hf (fun hm => (hni _ hm).2.1 rfl), own_frm_out h.ro hf (fun hm => (hni _ hm).2.2.1 rfl), ?_, ownsB_frm h.rn hf (fun k hk hm => (hni k hm).2.2.2 hk), h.d1, h.d2, h.d3, fun k hk => ?_, h.d5⟩
 ·rw [hlen, flatV_app]; exact ho
 ·rw [ob, Option.some.injEq] at hk
  subst hk
  rcases hg with hg | hg
  ·exact h.d4 _ hg
  ·have h1 := (h.ri.lt gi rfl).2
   have h2 := (h.rl.lt gl rfl).2
   have h3 := (h.ro.lt go rfl).2
   refine ⟨by omega, by omega, by omega, fun e => ?_⟩
   have := (h.rn.lt _ e).2
   omega

/-- The number of followed arcs of the last state goes up. -/
theorem TRep.setNext {B n : Nat} {w : World} {gi gl go gp cp m : Nat} {vo : Value} {idx low out : List Int} {opn : List Nat} {p : List (Nat × Nat)} {s k : Nat} (h : TRep B n w gi gl go (.slice (some ⟨gp, 0, none⟩) m cp) vo idx low out opn (p ++ [(s, k)])) (j : Nat) :
  TRep B n (w.setCell ⟨gp, p.length * 2 + 1, none⟩ (.int .i64 (j : Int))) gi gl go (.slice (some ⟨gp, 0, none⟩) m cp) vo idx low out opn (p ++ [(s, j)]) := by
 have hd := h.d4 gp rfl
 refine ⟨own_set h.ri hd.1, own_set h.rl hd.2.1, own_set h.ro hd.2.2.1, ?_, own_setv h.rn (fun q hq e => hd.2.2.2 (by rw [hq, e])), h.d1, h.d2, h.d3, h.d4, h.d5⟩
 have h1 := ownsB_setCellG h.rp (g := gp) rfl (p.length * 2 + 1) (.int .i64 (j : Int))
 rw [flatV_set] at h1
 have e : (p ++ [(s, j)]).length = (p ++ [(s, k)]).length := by simp
 rw [e]
 exact h1

/-- The last state is taken off the path. -/
theorem TRep.popPath {B n : Nat} {w : World} {gi gl go gp cp : Nat} {vo : Value} {idx low out : List Int} {opn : List Nat} {p : List (Nat × Nat)} {q : Nat × Nat} (h : TRep B n w gi gl go (.slice (some ⟨gp, 0, none⟩) (p ++ [q]).length cp) vo idx low out opn (p ++ [q])) :
  TRep B n w gi gl go (.slice (some ⟨gp, 0, none⟩) p.length cp) vo idx low out opn p := by
 refine ⟨h.ri, h.rl, h.ro, ?_, h.rn, h.d1, h.d2, h.d3, h.d4, h.d5⟩
 have h1 := owns_prefix h.rp (m := p.length) (by simp) (by simp)
 rw [flatV_app, List.take_append_of_le_length (by rw [flatV_len]; omega), List.take_of_length_le (by rw [flatV_len]; omega)] at h1
 exact h1

/-- A component is closed: the open states are cut, the row of least states is new. -/
theorem TRep.close {B n : Nat} {w w' : World} {gi gl go g cp p : Nat} {vp : Value} {idx low out out' : List Int} {opn : List Nat} {pm : List (Nat × Nat)} (h : TRep B n w gi gl go vp (.slice (some ⟨g, 0, none⟩) opn.length cp) idx low out opn pm) (hp : p ≤ opn.length)
  (ho : w'.ownsRow B 3 1 (.slice (some ⟨go, 0, none⟩) n n) n (ints out')) (hf : Frm [go] w w') :
  TRep B n w' gi gl go vp (.slice (some ⟨g, 0, none⟩) (opn.take p).length cp) idx low out' (opn.take p) pm := by
 have hlen : (opn.take p).length = p := by rw [List.length_take]; omega
 refine ⟨own_frm_out h.ri hf (by simp; exact h.d2), own_frm_out h.rl hf (by simp; exact h.d3), ho, ownsB_frm h.rp hf (fun k hk hm => (h.d4 k hk).2.2.1 (by simpa using hm)), ?_, h.d1, h.d2, h.d3, h.d4, h.d5⟩
 have h1 := own_frm_out h.rn hf (by simp; exact (h.d5 g rfl).2.2)
 have h2 := owns_prefix h1 (m := p) hp (by simp)
 rw [hlen]
 rw [Nat.mul_one] at h2
 have e : (ints (natI opn)).take p = ints (natI (opn.take p)) := by simp [ints, natI, List.map_take]
 rw [e] at h2
 exact h2

end Go.Proofs.YtikpcipkkhmcfaaGreat

/- The search for components in memory: its states at the head and in the middle of a round. -/
namespace Go.Proofs.YtikpcipkkhmcfaaGreat
open Go.RowKit

theorem esel_get {l : Lts} {silent : Bool} {s j : Nat} {row : List Arc} {e t : Int} (hs : l[s]? = some row) (hj : (sel row silent)[j]? = some (e, t)) : (((sel (l.getD s []) silent).map fun a => a.2.toNat))[j]? = some t.toNat := by
 have : l.getD s [] = row := by rw [List.getD_eq_getElem?_getD, hs]; rfl
 simp only [this, List.getElem?_map, hj]
 rfl
def Esel (l : Lts) (silent : Bool) (s : Nat) : List Nat := (sel (l.getD s []) silent).map fun a => a.2.toNat
theorem esel_len {l : Lts} {silent : Bool} {s : Nat} {row : List Arc} (hs : l[s]? = some row) : (Esel l silent s).length = (sel row silent).length := by
 have : l.getD s [] = row := by rw [List.getD_eq_getElem?_getD, hs]; rfl
 simp only [Esel, this, List.length_map]
theorem esel_edge {l : Lts} (hv : VLts l) (silent : Bool) : ∀ a b, a < l.length → b ∈ Esel l silent a → b < l.length := by
 intro a b ha hb
 obtain ⟨row, hrow⟩ : ∃ row, l[a]? = some row := ⟨_, List.getElem?_eq_getElem ha⟩
 have : l.getD a [] = row := by rw [List.getD_eq_getElem?_getD, hrow]; rfl
 simp only [Esel, this, List.mem_map] at hb
 obtain ⟨⟨e, t⟩, hm, rfl⟩ := hb
 obtain ⟨k, hk⟩ := sel_take row silent
 rw [hk] at hm
 have := (hv.row row (List.mem_of_getElem? hrow)).ok e t (List.mem_of_mem_take hm)
 omega
theorem sel_ok {l : Lts} (hv : VLts l) {s j : Nat} {row : List Arc} {silent : Bool} {e t : Int} (hs : l[s]? = some row) (hj : (sel row silent)[j]? = some (e, t)) : ∃ m : Nat, t = (m : Int) ∧ m < l.length := by
 obtain ⟨k, hk⟩ := sel_take row silent
 rw [hk] at hj
 have := (hv.row row (List.mem_of_getElem? hs)).ok e t (List.mem_of_mem_take (List.mem_of_getElem? hj))
 exact ⟨t.toNat, by omega, by omega⟩

def c0 (l : List Int) : Nat := l.countP fun x => decide (x = 0)
theorem c0_set {l : List Int} {t : Nat} {x : Int} (h : l[t]? = some 0) (hx : x ≠ 0) : c0 (l.set t x) + 1 = c0 l := by
 induction l generalizing t with
 | nil => simp at h
 | cons a r ih =>
  cases t with
  | zero =>
   simp at h
   subst h
   simp [c0, hx]
  | succ t =>
   have := ih (t := t) (by simpa using h)
   simp only [c0, List.set_cons_succ, List.countP_cons] at this ⊢
   omega
theorem c0_rep (n : Nat) : c0 (List.replicate n 0) = n := by
 induction n with
 | zero => rfl
 | succ n ih => simp only [c0, List.replicate_succ, List.countP_cons] at ih ⊢; simp [ih]
theorem c0_pos {l : List Int} {t : Nat} (h : l[t]? = some 0) : 1 ≤ c0 l := by
 have := c0_set h (show (1 : Int) ≠ 0 by decide)
 omega

/-- The path in memory. -/
def memP (p : List (Nat × Nat)) (fr : Option Nat) : List (Nat × Nat) := p.reverse ++ fr.toList.map fun t => (t, 0)

/-- At the head of the search. -/
structure Srch (E : Nat → List Nat) (B n : Nat) (wr : World) (gi gl go : Nat) (vp vo : Value) (st : Tj.St) (fr : Option Nat) : Prop where
 rep : TRep B n wr gi gl go vp vo st.idx st.low st.out st.opn (memP st.path fr)
 inv : Tj.Inv E n st fr
 nx : ∀ q ∈ st.path, 1 ≤ q.2 ∧ q.2 ≤ (E q.1).length
 cnt : st.cnt + c0 st.idx = n

theorem Srch.empty {E : Nat → List Nat} {B n : Nat} {wr : World} {gi gl go : Nat} {vp vo : Value} {st : Tj.St} {fr : Option Nat} (h : Srch E B n wr gi gl go vp vo st fr) (hp : st.path = []) : st.opn = [] := by
 refine List.eq_nil_iff_forall_not_mem.2 (fun v hv => ?_)
 obtain ⟨p, ⟨q, hq, _⟩, _⟩ := h.inv.first v hv
 rw [hp] at hq
 cases hq

theorem Srch.top {E : Nat → List Nat} {B n : Nat} {wr : World} {gi gl go : Nat} {vp vo : Value} {st : Tj.St} {fr : Option Nat} (h : Srch E B n wr gi gl go vp vo st fr) :
  (memP st.path fr = [] ∧ st.path = [] ∧ fr = none) ∨ ∃ pm s k, memP st.path fr = pm ++ [(s, k)] ∧ s < n ∧ ((fr = some s ∧ k = 0 ∧ st.path.reverse = pm ∧ Tj.ix st.idx s = 0) ∨ (fr = none ∧ 1 ≤ k ∧ ∃ r, st.path = (s, k) :: r ∧ r.reverse = pm)) := by
 cases fr with
 | some t =>
  have := h.inv.fr t rfl
  exact .inr ⟨st.path.reverse, t, 0, rfl, this.1, .inl ⟨rfl, rfl, rfl, this.2⟩⟩
 | none =>
  cases hp : st.path with
  | nil => exact .inl ⟨rfl, rfl, rfl⟩
  | cons q r =>
   obtain ⟨s, k⟩ := q
   have hs : s ∈ st.opn := by
    have := h.inv.path
    exact this.opn (s, k) (by rw [hp]; exact List.mem_cons_self ..)
   exact .inr ⟨r.reverse, s, k, by simp [memP], ((h.inv.opn s).1 hs).1, .inr ⟨rfl, (h.nx (s, k) (by rw [hp]; exact List.mem_cons_self ..)).1, r, rfl, rfl⟩⟩

/-- In the middle of a round: the state s is visited. -/
structure Mid (E : Nat → List Nat) (B n : Nat) (wr : World) (gi gl go : Nat) (vp vo : Value) (st : Tj.St) (s k : Nat) (r : List (Nat × Nat)) : Prop where
 path : st.path = (s, k) :: r
 rep : TRep B n wr gi gl go vp vo st.idx st.low st.out st.opn (r.reverse ++ [(s, k)])
 inv : Tj.Inv E n st none
 nx : ∀ q ∈ r, 1 ≤ q.2 ∧ q.2 ≤ (E q.1).length
 nk : k ≤ (E s).length
 cnt : st.cnt + c0 st.idx = n

theorem Mid.sopn {E : Nat → List Nat} {B n : Nat} {wr : World} {gi gl go : Nat} {vp vo : Value} {st : Tj.St} {s k : Nat} {r : List (Nat × Nat)} (h : Mid E B n wr gi gl go vp vo st s k r) : s ∈ st.opn :=
 h.inv.path.opn (s, k) (by rw [h.path]; exact List.mem_cons_self ..)
/-- The head of a round whose last state was visited before. -/
theorem Srch.mid {E : Nat → List Nat} {B n : Nat} {wr : World} {gi gl go : Nat} {vp vo : Value} {st : Tj.St} {s k : Nat} {r : List (Nat × Nat)} (h : Srch E B n wr gi gl go vp vo st none) (hp : st.path = (s, k) :: r) : Mid E B n wr gi gl go vp vo st s k r :=
 ⟨hp, by have := h.rep; rw [hp] at this; simpa [memP] using this, h.inv, fun q hq => h.nx q (by rw [hp]; exact List.mem_cons_of_mem _ hq), (h.nx (s, k) (by rw [hp]; exact List.mem_cons_self ..)).2, h.cnt⟩

theorem ix_some {l : List Int} {n v : Nat} (hl : l.length = n) (hv : v < n) : l[v]? = some (Tj.ix l v) := by
 unfold Tj.ix
 rw [List.getD_eq_getElem?_getD, List.getElem?_eq_getElem (by omega)]
 rfl

/-- The last state is visited now. -/
theorem Srch.visit {E : Nat → List Nat} {B n : Nat} {wr w' : World} {gi gl go : Nat} {vp vo vo' : Value} {st : Tj.St} {t : Nat} (h : Srch E B n wr gi gl go vp vo st (some t))
  (hrep : TRep B n w' gi gl go vp vo' (st.idx.set t (st.cnt + 1 : Int)) (st.low.set t (st.cnt + 1 : Int)) st.out (st.opn ++ [t]) (st.path.reverse ++ [(t, 0)])) :
  Mid E B n w' gi gl go vp vo' { st with idx := st.idx.set t (st.cnt + 1 : Int), low := st.low.set t (st.cnt + 1 : Int), cnt := st.cnt + 1, opn := st.opn ++ [t], path := (t, 0) :: st.path } t 0 st.path := by
 obtain ⟨h1, h2⟩ := h.inv.fr t rfl
 refine ⟨rfl, hrep, h.inv.visit, h.nx, Nat.zero_le _, ?_⟩
 have h3 := ix_some h.inv.li h1
 rw [h2] at h3
 have h4 := c0_set h3 (show (st.cnt + 1 : Int) ≠ 0 by omega)
 have := h.cnt
 show st.cnt + 1 + c0 (st.idx.set t (st.cnt + 1 : Int)) = n
 omega

theorem Mid.push {E : Nat → List Nat} {B n : Nat} {wr w' : World} {gi gl go : Nat} {vp vp' vo : Value} {st : Tj.St} {s k t : Nat} {r : List (Nat × Nat)} (h : Mid E B n wr gi gl go vp vo st s k r) (ht : (E s)[k]? = some t) (h0 : Tj.ix st.idx t = 0)
  (hrep : TRep B n w' gi gl go vp' vo st.idx st.low st.out st.opn ((r.reverse ++ [(s, k + 1)]) ++ [(t, 0)])) : Srch E B n w' gi gl go vp' vo { st with path := (s, k + 1) :: r } (some t) := by
 refine ⟨by simpa [memP] using hrep, h.inv.push h.path ht h0, fun q hq => ?_, h.cnt⟩
 rcases List.mem_cons.1 hq with rfl | hq
 ·have := (List.getElem?_eq_some_iff.1 ht).1
  exact ⟨by simp, by simp only; omega⟩
 ·exact h.nx q hq
theorem Mid.skip {E : Nat → List Nat} {B n : Nat} {wr w' : World} {gi gl go : Nat} {vp vo : Value} {st : Tj.St} {s k t : Nat} {r : List (Nat × Nat)} (h : Mid E B n wr gi gl go vp vo st s k r) (ht : (E s)[k]? = some t) (h1 : 0 ≤ Tj.ix st.out t)
  (hrep : TRep B n w' gi gl go vp vo st.idx st.low st.out st.opn (r.reverse ++ [(s, k + 1)])) : Mid E B n w' gi gl go vp vo { st with path := (s, k + 1) :: r } s (k + 1) r :=
 ⟨rfl, hrep, h.inv.skip h.path ht h1, h.nx, by have := (List.getElem?_eq_some_iff.1 ht).1; omega, h.cnt⟩
theorem Mid.least {E : Nat → List Nat} {B n : Nat} {wr w' : World} {gi gl go : Nat} {vp vo : Value} {st : Tj.St} {s k t : Nat} {r : List (Nat × Nat)} (h : Mid E B n wr gi gl go vp vo st s k r) (ht : (E s)[k]? = some t) (h0 : 0 < Tj.ix st.idx t) (h1 : Tj.ix st.out t < 0)
  (x : Int) (hx : x = min (Tj.ix st.low s) (Tj.ix st.idx t)) (hrep : TRep B n w' gi gl go vp vo st.idx (st.low.set s x) st.out st.opn (r.reverse ++ [(s, k + 1)])) : Mid E B n w' gi gl go vp vo { st with low := st.low.set s x, path := (s, k + 1) :: r } s (k + 1) r :=
 ⟨rfl, hrep, h.inv.least h.path ht h0 h1 x hx, h.nx, by have := (List.getElem?_eq_some_iff.1 ht).1; omega, h.cnt⟩

/-! ### the least of a list -/
theorem foldl_min_le : ∀ (l : List Int) (a : Int), l.foldl min a ≤ a ∧ (∀ x ∈ l, l.foldl min a ≤ x) ∧ (l.foldl min a = a ∨ l.foldl min a ∈ l)
 | [], a => ⟨Int.le_refl _, by simp, .inl rfl⟩
 | b :: r, a => by
  have ih := foldl_min_le r (min a b)
  simp only [List.foldl_cons]
  refine ⟨by omega, fun x hx => ?_, ?_⟩
  ·rcases List.mem_cons.1 hx with rfl | hx
   ·omega
   ·exact ih.2.1 x hx
  ·rcases ih.2.2 with h | h
   ·rcases (show min a b = a ∨ min a b = b by omega) with h2 | h2
    ·exact .inl (by rw [h, h2])
    ·exact .inr (by rw [h, h2]; exact List.mem_cons_self ..)
   ·exact .inr (List.mem_cons_of_mem _ h)
theorem minOf_spec {l : List Int} (h : l ≠ []) : Lib.minOf l ∈ l ∧ ∀ x ∈ l, Lib.minOf l ≤ x := by
 cases l with
 | nil => exact absurd rfl h
 | cons a r =>
  have := foldl_min_le (a :: r) a
  unfold Lib.minOf
  simp only [List.headD_cons]
  refine ⟨?_, this.2.1⟩
  rcases this.2.2 with h1 | h1
  ·rw [h1]; exact List.mem_cons_self ..
  ·exact h1
theorem setAll_ix (out : List Int) (l : List Nat) (v : Nat) (L : Int) (hv : v < out.length) : Tj.ix (setAll out (natI l) L) v = if v ∈ l then L else Tj.ix out v := by
 induction l generalizing out with
 | nil => rfl
 | cons a r ih =>
  have e : setAll out (natI (a :: r)) L = setAll (out.set a L) (natI r) L := by simp [setAll, natI]
  rw [e, ih (out.set a L) (by simpa using hv)]
  by_cases h1 : v ∈ r
  ·rw [if_pos h1, if_pos (List.mem_cons_of_mem _ h1)]
  ·rw [if_neg h1]
   by_cases h2 : v = a
   ·subst h2
    rw [if_pos (List.mem_cons_self ..), Tj.ix_set _ _ _ _ hv, if_pos rfl]
   ·rw [if_neg (by simp [h1, h2])]
    unfold Tj.ix
    rw [List.getD_eq_getElem?_getD, List.getElem?_set_ne (fun e => h2 e.symm), ← List.getD_eq_getElem?_getD]

/-- The component of the last state is closed. -/
theorem Mid.close {E : Nat → List Nat} {B n : Nat} {wr w' : World} {gi gl go : Nat} {vp vo vp' vo' : Value} {st : Tj.St} {s k p : Nat} {r : List (Nat × Nat)} (h : Mid E B n wr gi gl go vp vo st s k r) (hk : (E s).length ≤ k) (heq : Tj.ix st.low s = Tj.ix st.idx s) (hs : st.opn[p]? = some s)
  (hrep : TRep B n w' gi gl go vp' vo' st.idx st.low (setAll st.out ((natI st.opn).drop p) (Lib.minOf ((natI st.opn).drop p))) (st.opn.take p) r.reverse) :
  Srch E B n w' gi gl go vp' vo' { st with out := setAll st.out ((natI st.opn).drop p) (Lib.minOf ((natI st.opn).drop p)), opn := st.opn.take p, path := r } none := by
 have hd : (natI st.opn).drop p = natI (st.opn.drop p) := by simp [natI, List.map_drop]
 have hne : natI (st.opn.drop p) ≠ [] := by
  obtain ⟨hi, _⟩ := List.getElem?_eq_some_iff.1 hs
  intro e
  have := congrArg List.length e
  rw [natI_len, List.length_drop] at this
  simp at this
  omega
 have hm := minOf_spec hne
 rw [hd] at hrep ⊢
 refine ⟨by simpa [memP] using hrep, h.inv.close h.path hk heq hs _ (Lib.minOf (natI (st.opn.drop p))) (by rw [setAll_len, h.inv.lo]) (fun v hv => setAll_ix _ _ _ _ (by rw [h.inv.lo]; exact hv)) ?_ (fun m hm' => ?_), h.nx, h.cnt⟩
 ·have h1 := hm.1
  simp only [natI, List.mem_map] at h1
  obtain ⟨m, hm1, hm2⟩ := h1
  exact ⟨m, hm1, hm2.symm⟩
 ·exact hm.2 m (by simp only [natI, List.mem_map]; exact ⟨m, hm', rfl⟩)

theorem set_same {l : List Int} {n v : Nat} (hl : l.length = n) (hv : v < n) : l.set v (Tj.ix l v) = l := by
 refine List.ext_getElem? (fun i => ?_)
 rw [List.getElem?_set]
 split
 ·rename_i e
  subst e
  rw [if_pos (by omega), ix_some hl hv]
 ·rfl

end Go.Proofs.YtikpcipkkhmcfaaGreat

/- Merged text: Y1, Y2 of the notes. -/
/- Contract of graph.looping. -/
namespace Go.Proofs.YtikpcipkkhmcfaaGreat
open Go.RowKit

theorem infoBool : (Tryz.prog.info? 4).map (fun i => (i.zero, i.size, i.bytes)) = some (some (.bool false), 1, 1) := by kernel_rfl
def bools (bs : List Bool) : List Value := bs.map Value.bool
theorem bools_get {bs : List Bool} {i : Nat} {b : Bool} (h : bs[i]? = some b) : (bools bs)[i]? = some (.bool b) := by simp [bools, h]
theorem bools_set (bs : List Bool) (i : Nat) (b : Bool) : bools (bs.set i b) = (bools bs).set i (.bool b) := by simp [bools, List.map_set]

theorem wpl_make_b (w : World) {ops : Array Oper} {rest : List Oper} {o : Oper} {a : Act} {Q : Exit → Act → World → Prop}
  (hg : o.guard = none) (l : Operand) (hop : o.op = Op.makeSlice 83 l l) (L : Int) (n : Nat) (hl : a.eval l = .int .i64 L) (hL : L = (n : Int)) (hn : n ≤ 1000000)
  (hK : ∀ w', w'.ownsRow w.heap.size 4 1 (.slice (some ⟨w.heap.size, 0, none⟩) n n) n (bools (List.replicate n false)) → Frm [] w w' → wpList Tryz.prog ops Q rest (a.put o.dst (.slice (some ⟨w.heap.size, 0, none⟩) n n)) w') :
  wpList Tryz.prog ops Q (o :: rest) a w := by
 obtain ⟨i0, hi, hz0, hz1, hz2⟩ := info_parts infoBool
 refine wpList_make_full w hg l l 83 hop w.heap.size 4 i0 (.bool false) 1 Tryz.underlying83 hi hz0 hz1 .i64 .i64 L L n hl hl hL hL (by rw [hz2]; omega) (by unfold maxLen; omega) (Nat.le_refl _) ?_
 intro w' hown hgr
 refine hK w' ?_ ((Frm.refl [] w).grown hgr (by simp))
 have hm : (madeCells (Value.bool false).cells (n * 1)).toList = bools (List.replicate n false) := by
  rw [Nat.mul_one]
  exact (toList_madeCells_one _ _).trans (by simp [bools])
 rw [hm] at hown
 exact hown

/-- Entries below k are settled, entry k is b. -/
def bsAt (n : Nat) (f : Nat → Bool) (k : Nat) (b : Bool) : List Bool := (List.range n).map fun i => if i < k then f i else if i = k then b else false
theorem bsAt_get (n : Nat) (f : Nat → Bool) (k : Nat) (b : Bool) (i : Nat) (hi : i < n) : (bsAt n f k b)[i]? = some (if i < k then f i else if i = k then b else false) := by
 simp [bsAt, hi]
theorem bsAt_len (n : Nat) (f : Nat → Bool) (k : Nat) (b : Bool) : (bsAt n f k b).length = n := by simp [bsAt]
theorem bsAt_zero (n : Nat) (f : Nat → Bool) : bsAt n f 0 false = List.replicate n false := by
 refine List.ext_getElem? (fun i => ?_)
 by_cases hi : i < n
 ·rw [bsAt_get _ _ _ _ _ hi, List.getElem?_replicate, if_pos hi]; simp
 ·rw [List.getElem?_eq_none (by rw [bsAt_len]; omega), List.getElem?_eq_none (by simp; omega)]
theorem bsAt_set (n : Nat) (f : Nat → Bool) (k : Nat) (b c : Bool) : (bsAt n f k b).set k c = bsAt n f k c := by
 refine List.ext_getElem? (fun i => ?_)
 by_cases hi : i < n
 ·rw [List.getElem?_set, bsAt_get _ _ _ _ _ hi, bsAt_get _ _ _ _ _ hi, bsAt_len]
  by_cases h1 : k = i
  ·subst h1; simp [hi]
  ·rw [if_neg h1]
   have : ¬ i = k := fun e => h1 e.symm
   simp [this]
 ·rw [List.getElem?_eq_none (by rw [List.length_set, bsAt_len]; omega), List.getElem?_eq_none (by rw [bsAt_len]; omega)]
theorem bsAt_next (n : Nat) (f : Nat → Bool) (k : Nat) : bsAt n f k (f k) = bsAt n f (k + 1) false := by
 refine List.ext_getElem? (fun i => ?_)
 by_cases hi : i < n
 ·rw [bsAt_get _ _ _ _ _ hi, bsAt_get _ _ _ _ _ hi]
  by_cases h1 : i < k
  ·rw [if_pos h1, if_pos (by omega)]
  ·by_cases h2 : i = k
   ·subst h2; simp
   ·rw [if_neg h1, if_neg h2, if_neg (by omega)]; simp
 ·rw [List.getElem?_eq_none (by rw [bsAt_len]; omega), List.getElem?_eq_none (by rw [bsAt_len]; omega)]
theorem bsAt_end (n : Nat) (f : Nat → Bool) (b : Bool) : bsAt n f n b = (List.range n).map f := by
 refine List.map_congr_left (fun i hi => ?_)
 rw [if_pos (List.mem_range.1 hi)]

theorem own_rowg2 {B : Nat} {w : World} {e size g n cap : Nat} {xs : List Value} (h : w.ownsRow B e size (.slice (some ⟨g, 0, none⟩) n cap) n xs) : RowAt w g e xs := by
 rcases h.2 with ⟨h0, _⟩ | ⟨g', cp', cur, h0, hb, hg, h1, h2, h3, h4⟩
 ·cases h0
 ·obtain ⟨rfl, rfl⟩ : g = g' ∧ cap = cp' := by simpa using h0
  exact ⟨cur, hg, by have := h.1; rw [this]; exact h4⟩

/-- Does the state s lie on a silent cycle, by the components. -/
def loopF (E : Nat → List Nat) (comp : List Int) (s : Nat) : Bool := (E s).any fun t => decide (Tj.ix comp t = Tj.ix comp s)

set_option linter.unusedSimpArgs false in
set_option maxRecDepth 100000 in
set_option maxHeartbeats 2000000 in
theorem looping_any (B : Nat) (a : Option Addr) (cap : Nat) (l : Lts) (hv : VLts l) (ca : Option Addr) (cc : Nat) (comp : List Int) (w : World) (h0 : LAt B w a cap l) (hc0 : Rd B w ca l.length cc 1 (ints comp)) (hBw : B ≤ w.heap.size) :
  Calls Tryz.prog 88 #[.agg #[.slice a l.length cap], .slice ca l.length cc] w fun e w' => ∃ g, e = .returned (.slice (some ⟨g, 0, none⟩) l.length l.length) ∧ w'.ownsRow w.heap.size 4 1 (.slice (some ⟨g, 0, none⟩) l.length l.length) l.length (bools ((List.range l.length).map (loopF (Esel l true) comp))) ∧ Frm [] w w' := by
 have f0 : Frm [] w (w.alloc (.cells #[.slice a l.length cap] 25)) := (Frm.refl [] w).alloc _
 have hbox := box1 w (.slice a l.length cap) 25
 have hcl : comp.length = l.length := by have := hc0.len; rw [ints_len] at this; omega
 have HB := Lib.hid hbox
 have H0 := Lib.hid (h0.nil f0 rfl)
 have HC := Lib.hid (hc0.frm f0 (by simp))
 have HV := Lib.hid hv
 have HCL := Lib.hid hcl
 have hlt := h0.lt
 have hclt := hc0.lt
 have hfew := hv.few
 have i2 : (l.length : Int) ≤ 16384 := by omega
 clear h0 hc0 hv hbox hcl
 go_enter Tryz.func88, Tryz.ntmps88
 go_wp2_with (first | (at_make; refine wpl_make_b _ rfl (.tmp 11) rfl _ l.length rfl rfl (by omega) ?_) | (at_make; fail))
 intro w1 hown1 hf1
 rw [← bsAt_zero l.length (loopF (Esel l true) comp)] at hown1
 have HOWN1 := Lib.hid hown1
 have HF1 := Lib.hid hf1
 clear hown1
 have hbr1 := (HB.out.frm hf1 (by simp)).cell (i := 0) rfl
 clear hf1
 go_wp2_with fail
 go_loopg [16] l.length (fun q i wr => ∃ (k : Nat), q = l.length - k ∧ k ≤ l.length ∧ i = .int .i64 (k : Int) ∧ wr.ownsRow (w.heap.size + 1) 4 1 (.slice (some ⟨w.heap.size + 1, 0, none⟩) l.length l.length) l.length (bools (bsAt l.length (loopF (Esel l true) comp) k false)) ∧ Frm [w.heap.size + 1] w1 wr)
 case atStart => exact ⟨0, rfl, Nat.zero_le _, rfl, HOWN1.out, Frm.refl _ _⟩
 case round =>
  obtain ⟨k, rfl, hk, rfl, hown, hF⟩ := hrel
  have HOWN := Lib.hid hown
  have HF := Lib.hid hF
  have hFb := (HF1.out.mono (fq := [w.heap.size + 1]) (by simp)).trans hF (by simp)
  have HFB := Lib.hid hFb
  have i4 : (0 : Int) ≤ (k : Int) := by omega
  clear hown hF hFb hbr1
  by_cases hlt2 : k < l.length
  ·have i5 : (k : Int) < (l.length : Int) := by omega
   obtain ⟨row, hrow⟩ : ∃ row, l[k]? = some row := ⟨_, List.getElem?_eq_getElem hlt2⟩
   have hbr := HFB.out.cell ((HB.out).cell (i := 0) rfl) (by simp)
   have harc := arcs_any B a cap l k row true wr (H0.out.frm HFB.out (by simp; omega)) hrow
   have hfewr := (HV.out.row row (List.mem_of_getElem? hrow)).few
   have hlen := sel_len row true
   obtain ⟨sr, hsr⟩ : ∃ sr, sel row true = sr := ⟨_, rfl⟩
   have HSEL := Lib.hid hsr
   have HROW := Lib.hid hrow
   rw [hsr] at harc hlen
   have HARC := Lib.hid harc
   have i6 : (sr.length : Int) ≤ 262144 := by omega
   obtain ⟨xk, hxk⟩ : ∃ xk, comp[k]? = some xk := ⟨_, List.getElem?_eq_getElem (by rw [HCL.out]; exact hlt2)⟩
   have hixk := Tj.ix_get hxk
   have HXK := Lib.hid hxk
   have HIXK := Lib.hid hixk
   clear harc hsr hrow hxk hixk
   go_wp2_with fail
   refine HARC.out.mono ?_
   rintro e3 w3 ⟨⟨ra, rc, rfl, hrr⟩, hf3⟩
   have HRR := Lib.hid hrr
   have HF3 := Lib.hid (HFB.out.trans hf3 (by simp))
   have HOWN3 := Lib.hid (own_frm_out HOWN.out hf3 (by simp))
   have HF13 := Lib.hid (HF.out.trans hf3 (by simp))
   clear hrr hf3 hbr
   go_wp2_with fail
   go_loopg [23] sr.length (fun q i wr => ∃ (j : Nat), q = sr.length - j ∧ j ≤ sr.length ∧ i = .int .i64 (j : Int) ∧ wr.ownsRow (w.heap.size + 1) 4 1 (.slice (some ⟨w.heap.size + 1, 0, none⟩) l.length l.length) l.length (bools (bsAt l.length (loopF (Esel l true) comp) k ((((Esel l true) k).take j).any fun t => decide (Tj.ix comp t = Tj.ix comp k)))) ∧ Frm [w.heap.size + 1] w3 wr)
   case atStart => exact ⟨0, rfl, Nat.zero_le _, rfl, by simpa using HOWN3.out, Frm.refl _ _⟩
   case round =>
    obtain ⟨j, rfl, hj, rfl, hown4, hF4⟩ := hrel
    have HOWN4 := Lib.hid hown4
    have HF4 := Lib.hid hF4
    have HFB4 := Lib.hid (HF3.out.trans hF4 (by simp))
    have i8 : (0 : Int) ≤ (j : Int) := by omega
    have hszr := (HF3.out.trans hF4 (by simp)).size
    simp only [World.alloc, Array.size_push] at hszr
    have hgl := (hown4.lt (w.heap.size + 1) rfl).2
    clear hown4 hF4
    by_cases hjl : j < sr.length
    ·have i9 : (j : Int) < (sr.length : Int) := by omega
     obtain ⟨⟨e, t⟩, harc⟩ : ∃ y, sr[j]? = some y := ⟨_, List.getElem?_eq_getElem hjl⟩
     obtain ⟨m, rfl, hmn⟩ := sel_ok HV.out HROW.out (by rw [HSEL.out]; exact harc)
     have hEm : (Esel l true k)[j]? = some m := by
      have := esel_get HROW.out (silent := true) (j := j) (by rw [HSEL.out]; exact harc)
      simpa [Esel] using this
     obtain ⟨b1, o1, rfl, hb1, q1, q2⟩ := HRR.out.2.2.2 j e m harc
     have d1 := HF4.out.cell q1 (by simp; omega)
     have d2 := HF4.out.cell q2 (by simp; omega)
     obtain ⟨xm, hxm⟩ : ∃ xm, comp[m]? = some xm := ⟨_, List.getElem?_eq_getElem (by rw [HCL.out]; exact hmn)⟩
     have hixm := Tj.ix_get hxm
     obtain ⟨cb, co, hca, hcb, cm⟩ := (HC.out.frm HFB4.out (by simp; omega)).at hxm
     obtain ⟨cb', co', hca', _, ck⟩ := (HC.out.frm HFB4.out (by simp; omega)).at HXK.out
     rw [hca] at hca'
     obtain ⟨rfl, rfl⟩ : cb = cb' ∧ co = co' := by simpa using hca'
     subst hca
     have n1 := World.block_lt_of_cell? _ _ cm
     have n2 := World.block_lt_of_cell? _ _ d1
     simp only at n1 n2
     have i10 : (m : Int) < (l.length : Int) := by omega
     have i11 : (0 : Int) ≤ (m : Int) := by omega
     have htk : (Esel l true k).take (j + 1) = (Esel l true k).take j ++ [m] := by
      rw [List.take_add_one, hEm]; rfl
     have HTK := Lib.hid htk
     have HIXM := Lib.hid hixm
     clear harc hEm q1 q2 hxm hixm hca' htk
     by_cases hxx : xm = xk
     ·subst hxx
      have hbb : (xm == xm) = true := by simp
      have zf := (own_rowg2 HOWN4.out).frozen k
      have cf := (own_rowg2 HOWN4.out).cell (bools_get (bsAt_get l.length (loopF (Esel l true) comp) k _ k hlt2))
      go_wp2_with fail
      go_quiet (fail)
      go_wp2_with fail
      go_roundg (sr.length - (j + 1))
      case rel =>
       refine ⟨j + 1, rfl, hjl, by go_num, ?_, ?_⟩
       ·rw [HTK.out, List.any_append, List.any_cons, HIXM.out, HIXK.out]
        simp only [decide_true, Bool.true_or, Bool.or_true]
        have h9 := ownsB_setCellG (owns_drewN (HOWN4.out.alloc (.cells #[.int .i64 e, .int .i64 (m : Int)] 66)) nq) (g := w.heap.size + 1) rfl k (.bool true)
        rw [← bools_set, bsAt_set] at h9
        exact h9
       ·exact ((HF4.out.alloc (.cells #[.int .i64 e, .int .i64 (m : Int)] 66)).drewN nq).setCell (p := ⟨w.heap.size + 1, k, none⟩) (.inl (by simp)) _
      case measure => omega
     ·have hbb : (xm == xk) = false := by simpa using hxx
      go_wp2_with fail
      go_quiet (fail)
      go_wp2_with fail
      go_roundg (sr.length - (j + 1))
      case rel =>
       refine ⟨j + 1, rfl, hjl, by go_num, ?_, (HF4.out.alloc (.cells #[.int .i64 e, .int .i64 (m : Int)] 66)).drewN nq⟩
       have h8 : decide (Tj.ix comp m = Tj.ix comp k) = false := by rw [HIXM.out, HIXK.out]; exact decide_eq_false hxx
       rw [HTK.out, List.any_append, List.any_cons, h8, List.any_nil, Bool.or_false, Bool.or_false]
       exact owns_drewN (HOWN4.out.alloc (.cells #[.int .i64 e, .int .i64 (m : Int)] 66)) nq
      case measure => omega
    ·have hjn : j = sr.length := by omega
     subst hjn
     have i9 : ¬ (sr.length : Int) < (sr.length : Int) := by omega
     have hlenE : (Esel l true k).length = sr.length := by rw [esel_len HROW.out, HSEL.out]
     have hown5 := HOWN4.out
     rw [List.take_of_length_le (by omega)] at hown5
     change wr.ownsRow (w.heap.size + 1) 4 1 (.slice (some ⟨w.heap.size + 1, 0, none⟩) l.length l.length) l.length (bools (bsAt l.length (loopF (Esel l true) comp) k (loopF (Esel l true) comp k))) at hown5
     rw [bsAt_next] at hown5
     have HOWN5 := Lib.hid hown5
     have HF15 := Lib.hid (HF13.out.trans HF4.out (by simp))
     clear hown5 hlenE
     go_wp2_with fail
     go_roundg (l.length - (k + 1))
     case rel => exact ⟨k + 1, rfl, by omega, by go_num, HOWN5.out, HF15.out⟩
     case measure => omega
  ·have hkl : k = l.length := by omega
   subst hkl
   have i5 : ¬ (l.length : Int) < (l.length : Int) := by omega
   go_wp2_with fail
   go_ret
   have h9 := HOWN.out
   rw [bsAt_end] at h9
   have hF9 : Frm [w.heap.size + 1] w wr := (f0.mono (fq := [w.heap.size + 1]) (by simp)).trans HFB.out (by simp)
   exact ⟨w.heap.size + 1, rfl, ownsB_mono h9 (by omega), ⟨hF9.os, hF9.tape, hF9.output, hF9.size, fun q hq _ => hF9.block q hq (by simp; omega)⟩⟩

end Go.Proofs.YtikpcipkkhmcfaaGreat

/- Contract of graph.follow. -/
namespace Go.Proofs.YtikpcipkkhmcfaaGreat
open Go.RowKit

/-- The first successor with distance d, or -1. -/
def followL (dist : List Int) (d : Int) : List Nat → Int
 | [] => -1
 | t :: r => if Tj.ix dist t = d then (t : Int) else followL dist d r
end Go.Proofs.YtikpcipkkhmcfaaGreat

/- Merged text: V5, V6, V7 of the notes. -/
/- Plain law: components and distances say which states are divergent. No program. -/
namespace Go.Proofs.YtikpcipkkhmcfaaGreat

/-- The state lies on a cycle of at least one arc. -/
def OnC (E : Nat → List Nat) (s : Nat) : Prop := ∃ t ∈ E s, Path E t s
def Div (E : Nat → List Nat) (s : Nat) : Prop := ∃ u, Path E s u ∧ OnC E u
structure IsDiv (E : Nat → List Nat) (n : Nat) (bs : List Bool) : Prop where
 len : bs.length = n
 iff : ∀ v, v < n → (bs[v]? = some true ↔ Div E v)

theorem IsDiv.unique {E : Nat → List Nat} {n : Nat} {a b : List Bool} (ha : IsDiv E n a) (hb : IsDiv E n b) : a = b := by
 refine List.ext_getElem (by rw [ha.len, hb.len]) (fun v h1 h2 => ?_)
 have hv : v < n := by rw [← ha.len]; exact h1
 have h3 := ha.iff v hv
 have h4 := hb.iff v hv
 rw [List.getElem?_eq_getElem h1, Option.some.injEq] at h3
 rw [List.getElem?_eq_getElem h2, Option.some.injEq] at h4
 exact Bool.eq_iff_iff.2 (h3.trans h4.symm)

theorem PathN.path {E : Nat → List Nat} {d a b : Nat} (h : PathN E d a b) : Path E a b := by
 induction h with
 | refl a => exact .refl a
 | step e _ ih => exact .step e ih
theorem Path.pathN {E : Nat → List Nat} {a b : Nat} (h : Path E a b) : ∃ d, PathN E d a b := by
 induction h with
 | refl a => exact ⟨0, .refl a⟩
 | step e _ ih => obtain ⟨d, hd⟩ := ih; exact ⟨d + 1, .step e hd⟩
theorem Path.lt {E : Nat → List Nat} {n a b : Nat} (hE : ∀ a b, a < n → b ∈ E a → b < n) (h : Path E a b) (ha : a < n) : b < n := h.closed (P := fun v => v < n) hE ha

theorem loopF_iff {E : Nat → List Nat} {n : Nat} {comp : List Int} (hc : Tj.IsComp E n comp) (hE : ∀ a b, a < n → b ∈ E a → b < n) {s : Nat} (hs : s < n) : loopF E comp s = true ↔ OnC E s := by
 simp only [loopF, List.any_eq_true, decide_eq_true_eq, OnC]
 refine ⟨fun ⟨t, ht, he⟩ => ⟨t, ht, ?_⟩, fun ⟨t, ht, hp⟩ => ⟨t, ht, ?_⟩⟩
 ·obtain ⟨m, h1, _, h2, _⟩ := hc.own t (hE s t hs ht)
  obtain ⟨k, h3, _, _, h4⟩ := hc.own s hs
  have : m = k := by omega
  subst this
  exact h2.trans h4
 ·obtain ⟨m, h1, _, h2, h2'⟩ := hc.own t (hE s t hs ht)
  obtain ⟨k, h3, _, h4, h4'⟩ := hc.own s hs
  have h5 := hc.least t k (hE s t hs ht) (hp.trans h4) (h4'.trans (Path.one ht))
  have h6 := hc.least s m hs ((Path.one ht).trans h2) (h2'.trans hp)
  omega

theorem loops_get {E : Nat → List Nat} {n : Nat} {comp : List Int} (hc : Tj.IsComp E n comp) (hE : ∀ a b, a < n → b ∈ E a → b < n) (v : Nat) : ((List.range n).map (loopF E comp))[v]? = some true ↔ v < n ∧ OnC E v := by
 by_cases hv : v < n
 ·rw [List.getElem?_map, List.getElem?_range hv, Option.map_some, Option.some.injEq, loopF_iff hc hE hv]
  exact ⟨fun h => ⟨hv, h⟩, fun h => h.2⟩
 ·rw [List.getElem?_eq_none (by simp; omega)]
  simp [hv]

theorem IsDist.congr {E : Nat → List Nat} {n : Nat} {g g' : Nat → Prop} {out : List Int} (h : IsDist E n g out) (hg : ∀ v, g v ↔ g' v) : IsDist E n g' out :=
 ⟨h.len, fun v hv hn => ⟨(h.none v hv hn).1, fun d u hu hp => (h.none v hv hn).2 d u ((hg u).2 hu) hp⟩, fun v hv h0 => by
  obtain ⟨d, u, h1, h2, h3⟩ := h.some v hv h0
  exact ⟨d, u, h1, (hg u).1 h2, h3⟩, fun v d u hv h0 hu hp => h.least v d u hv h0 ((hg u).2 hu) hp, h.bnd⟩

theorem isDist_loops {E : Nat → List Nat} {n : Nat} {comp out : List Int} (hc : Tj.IsComp E n comp) (hE : ∀ a b, a < n → b ∈ E a → b < n) (h : IsDist E n (fun v => ((List.range n).map (loopF E comp))[v]? = some true) out) : IsDist E n (fun v => v < n ∧ OnC E v) out := h.congr (loops_get hc hE)

theorem div_iff {E : Nat → List Nat} {n : Nat} {out : List Int} (hE : ∀ a b, a < n → b ∈ E a → b < n) (h : IsDist E n (fun v => v < n ∧ OnC E v) out) {v : Nat} (hv : v < n) : 0 ≤ Tj.ix out v ↔ Div E v := by
 constructor
 ·intro h0
  obtain ⟨d, g, _, h2, h3⟩ := h.some v hv h0
  exact ⟨g, h3.path, h2.2⟩
 ·rintro ⟨u, hp, ho⟩
  obtain ⟨d, hd⟩ := hp.pathN
  rcases (show Tj.ix out v < 0 ∨ 0 ≤ Tj.ix out v by omega) with h1 | h1
  ·exact absurd hd ((h.none v hv h1).2 d u ⟨hp.lt hE hv, ho⟩)
  ·exact h1

/-- The row of Divergent. -/
def divF (out : List Int) (v : Nat) : Bool := decide (0 ≤ Tj.ix out v)
theorem isDiv_of {E : Nat → List Nat} {n : Nat} {out : List Int} (hE : ∀ a b, a < n → b ∈ E a → b < n) (h : IsDist E n (fun v => v < n ∧ OnC E v) out) : IsDiv E n ((List.range n).map (divF out)) :=
 ⟨by simp, fun v hv => by
  rw [List.getElem?_map, List.getElem?_range hv, Option.map_some, Option.some.injEq, divF, decide_eq_true_eq]
  exact div_iff hE h hv⟩

end Go.Proofs.YtikpcipkkhmcfaaGreat

/- Plain law: following distances. No program. -/
namespace Go.Proofs.YtikpcipkkhmcfaaGreat

/-- The next state on the way to a goal. -/
def nxt (E : Nat → List Nat) (d : List Int) (s : Nat) : Nat := (followL d (Tj.ix d s - 1) (E s)).toNat
def endN (E : Nat → List Nat) (d : List Int) : Nat → Nat → Nat
 | 0, s => s
 | k + 1, s => endN E d k (nxt E d s)
def walkN (E : Nat → List Nat) (d : List Int) : Nat → Nat → List Nat
 | 0, _ => []
 | k + 1, s => s :: walkN E d k (nxt E d s)
/-- The least distance that is not -1, or -1. -/
def leastF (d : List Int) (ts : List Nat) : Int := ts.foldl (fun acc t => if 0 ≤ Tj.ix d t ∧ (acc < 0 ∨ Tj.ix d t < acc) then Tj.ix d t else acc) (-1)
/-- Path and cycle of a lasso. -/
structure IsLas (E : Nat → List Nat) (n s : Nat) (p c : List Nat) : Prop where
 h : ∃ (d d' : List Int) (k t x m : Nat), IsDist E n (fun v => v < n ∧ OnC E v) d ∧ Tj.ix d s = k ∧ t = endN E d k s ∧ p = walkN E d k s ++ [t] ∧ IsDist E n (fun v => v = t) d' ∧ leastF d' (E t) = m ∧ followL d' m (E t) = x ∧ x ∈ E t ∧ Tj.ix d' x = m ∧ c = t :: walkN E d' m x

/-- Any two lassos are the same. -/
theorem IsLas.unique {E : Nat → List Nat} {n s : Nat} {p c p' c' : List Nat} (h : IsLas E n s p c) (h' : IsLas E n s p' c') : p = p' ∧ c = c' := by
 obtain ⟨d1, e1, k1, t1, x1, m1, a1, a2, a3, a4, a5, a6, a7, _, _, a8⟩ := h.h
 obtain ⟨d2, e2, k2, t2, x2, m2, b1, b2, b3, b4, b5, b6, b7, _, _, b8⟩ := h'.h
 obtain rfl := a1.unique b1
 obtain rfl : k1 = k2 := by omega
 rw [← a3] at b3
 subst b3
 obtain rfl := a5.unique b5
 obtain rfl : m1 = m2 := by omega
 obtain rfl : x1 = x2 := by omega
 exact ⟨by rw [a4, b4], by rw [a8, b8]⟩

end Go.Proofs.YtikpcipkkhmcfaaGreat

/- Plain law: the arcs that are followed; depth-first search finds what is reached. No program. -/
namespace Go.Proofs.YtikpcipkkhmcfaaGreat

def follows (silent : Bool) (a : Arc) : Bool := !silent || decide (a.1 = 0)
theorem tw_filter : ∀ (row : List Arc), row.Pairwise (fun a b => a.1 ≤ b.1) → (∀ a ∈ row, 0 ≤ a.1) → row.takeWhile isTau = row.filter (fun a => decide (a.1 = 0))
 | [], _, _ => rfl
 | a :: r, hp, h0 => by
  have h1 := List.pairwise_cons.1 hp
  have ha := h0 a (List.mem_cons_self ..)
  by_cases he : a.1 = 0
  ·rw [List.takeWhile_cons_of_pos (by simp [isTau, he]), List.filter_cons_of_pos (by simp [he]), tw_filter r h1.2 (fun b hb => h0 b (List.mem_cons_of_mem _ hb))]
  ·rw [List.takeWhile_cons_of_neg (by simp [isTau, he]), List.filter_cons_of_neg (by simp [he])]
   symm
   rw [List.filter_eq_nil_iff]
   intro b hb
   have := h1.1 b hb
   simp
   omega
theorem sel_filter {n : Nat} {row : List Arc} (h : VRow n row) (silent : Bool) : sel row silent = row.filter (follows silent) := by
 unfold sel
 cases silent with
 | false =>
  simp only [Bool.false_eq_true, if_false]
  symm
  rw [List.filter_eq_self]
  intro a _
  simp [follows]
 | true =>
  simp only [if_true]
  rw [tw_filter row (ascB_le row h.asc) (fun a ha => (h.ok a.1 a.2 ha).1)]
  refine List.filter_congr (fun a _ => ?_)
  simp [follows]

/-! ### depth-first search -/
structure Dfs (E : Nat → List Nat) (n : Nat) (fr : List Nat) (seen : List Bool) (todo : List Nat) : Prop where
 len : seen.length = n
 lt : ∀ v ∈ todo, v < n
 snd : ∀ v, seen[v]? = some true ∨ v ∈ todo → ∃ s ∈ fr, Path E s v
 has : ∀ s ∈ fr, seen[s]? = some true ∨ s ∈ todo
 cl : ∀ v, seen[v]? = some true → ∀ t ∈ E v, seen[t]? = some true ∨ t ∈ todo

theorem Path.snoc {E : Nat → List Nat} {a b c : Nat} (h : Path E a b) (hc : c ∈ E b) : Path E a c := h.trans (Path.one hc)

theorem Dfs.start {E : Nat → List Nat} {n : Nat} {fr : List Nat} (h : ∀ v ∈ fr, v < n) : Dfs E n fr (List.replicate n false) fr := by
 have h0 : ∀ v : Nat, (List.replicate n false)[v]? ≠ some true := fun v => by
  rw [List.getElem?_replicate]
  split <;> simp
 exact ⟨by simp, h, fun v hv => hv.elim (fun e => absurd e (h0 v)) (fun hm => ⟨v, hm, .refl v⟩), fun s hs => .inr hs, fun v hv => absurd hv (h0 v)⟩
theorem Dfs.skip {E : Nat → List Nat} {n : Nat} {fr : List Nat} {seen : List Bool} {r : List Nat} {s : Nat} (h : Dfs E n fr seen (r ++ [s])) (hs : seen[s]? = some true) : Dfs E n fr seen r := by
 have key : ∀ v, seen[v]? = some true ∨ v ∈ r ++ [s] → seen[v]? = some true ∨ v ∈ r := fun v hv => by
  rcases hv with hv | hv
  ·exact .inl hv
  ·rcases List.mem_append.1 hv with hv | hv
   ·exact .inr hv
   ·rw [List.mem_singleton.1 hv]; exact .inl hs
 exact ⟨h.len, fun v hv => h.lt v (List.mem_append_left _ hv), fun v hv => h.snd v (hv.imp id (fun hm => List.mem_append_left _ hm)), fun v hv => key v (h.has v hv), fun v hv t ht => key t (h.cl v hv t ht)⟩
theorem seen_set {seen : List Bool} {s : Nat} (hs : s < seen.length) (v : Nat) : (seen.set s true)[v]? = some true ↔ v = s ∨ seen[v]? = some true := by
 rw [List.getElem?_set]
 by_cases h1 : s = v
 ·subst h1; simp [hs]
 ·rw [if_neg h1]
  exact ⟨fun h => .inr h, fun h => h.elim (fun e => absurd e.symm h1) id⟩
theorem Dfs.visit {E : Nat → List Nat} {n : Nat} {fr : List Nat} {seen : List Bool} {r : List Nat} {s : Nat} (hE : ∀ a b, a < n → b ∈ E a → b < n) (h : Dfs E n fr seen (r ++ [s])) : Dfs E n fr (seen.set s true) (r ++ E s) := by
 have hsn : s < n := h.lt s (by simp)
 have hsl : s < seen.length := by rw [h.len]; exact hsn
 have key : ∀ v, seen[v]? = some true ∨ v ∈ r ++ [s] → (seen.set s true)[v]? = some true ∨ v ∈ r ++ E s := fun v hv => by
  rw [seen_set hsl]
  rcases hv with hv | hv
  ·exact .inl (.inr hv)
  ·rcases List.mem_append.1 hv with hv | hv
   ·exact .inr (List.mem_append_left _ hv)
   ·exact .inl (.inl (List.mem_singleton.1 hv))
 refine ⟨by rw [List.length_set]; exact h.len, fun v hv => ?_, fun v hv => ?_, fun v hv => key v (h.has v hv), fun v hv t ht => ?_⟩
 ·rcases List.mem_append.1 hv with hv | hv
  ·exact h.lt v (List.mem_append_left _ hv)
  ·exact hE s v hsn hv
 ·rw [seen_set hsl] at hv
  rcases hv with (rfl | hv) | hv
  ·exact h.snd v (.inr (by simp))
  ·exact h.snd v (.inl hv)
  ·rcases List.mem_append.1 hv with hv | hv
   ·exact h.snd v (.inr (List.mem_append_left _ hv))
   ·obtain ⟨u, hu, hp⟩ := h.snd s (.inr (by simp))
    exact ⟨u, hu, hp.snoc hv⟩
 ·rw [seen_set hsl] at hv
  rcases hv with rfl | hv
  ·exact .inr (List.mem_append_right _ ht)
  ·exact key t (h.cl v hv t ht)
theorem Dfs.finish {E : Nat → List Nat} {n : Nat} {fr : List Nat} {seen : List Bool} (h : Dfs E n fr seen []) (v : Nat) : seen[v]? = some true ↔ ∃ s ∈ fr, Path E s v := by
 refine ⟨fun hv => h.snd v (.inl hv), ?_⟩
 rintro ⟨s, hs, hp⟩
 have h0 : seen[s]? = some true := (h.has s hs).elim id (fun hm => by cases hm)
 exact hp.closed (P := fun v => seen[v]? = some true) (fun a b ha hb => (h.cl a ha b hb).elim id (fun hm => by cases hm)) h0

/-- What is left to be pushed. -/
def wtf (E : Nat → List Nat) (seen : List Bool) (v : Nat) : Nat := if seen[v]? = some true then 0 else (E v).length
def sumf (f : Nat → Nat) : Nat → Nat
 | 0 => 0
 | n + 1 => sumf f n + f n
theorem sumf_congr {f g : Nat → Nat} : ∀ {n : Nat}, (∀ v, v < n → f v = g v) → sumf f n = sumf g n
 | 0, _ => rfl
 | n + 1, h => by rw [sumf, sumf, sumf_congr (fun v hv => h v (by omega)), h n (by omega)]
theorem sumf_point {f g : Nat → Nat} {s : Nat} : ∀ {n : Nat}, s < n → (∀ v, v ≠ s → f v = g v) → sumf f n + g s = sumf g n + f s
 | 0, hs, _ => absurd hs (Nat.not_lt_zero _)
 | n + 1, hs, h => by
  rw [sumf, sumf]
  by_cases hn : s = n
  ·subst hn
   have := sumf_congr (f := f) (g := g) (n := s) (fun v hv => h v (by omega))
   omega
  ·have := sumf_point (f := f) (g := g) (s := s) (n := n) (by omega) h
   have := h n (fun e => hn e.symm)
   omega
theorem sumf_le {f g : Nat → Nat} : ∀ {n : Nat}, (∀ v, v < n → f v ≤ g v) → sumf f n ≤ sumf g n
 | 0, _ => Nat.le_refl _
 | n + 1, h => by
  have h1 := sumf_le (f := f) (g := g) (n := n) (fun v hv => h v (by omega))
  have h2 := h n (by omega)
  rw [sumf, sumf]
  omega
def wt (E : Nat → List Nat) (n : Nat) (seen : List Bool) : Nat := sumf (wtf E seen) n
theorem wt_visit {E : Nat → List Nat} {n : Nat} {seen : List Bool} {s : Nat} (hs : s < n) (hl : seen.length = n) (h0 : seen[s]? ≠ some true) : wt E n (seen.set s true) + (E s).length = wt E n seen := by
 have h1 := sumf_point (f := wtf E (seen.set s true)) (g := wtf E seen) (s := s) (n := n) hs (fun v hv => by
  have : (seen.set s true)[v]? = some true ↔ seen[v]? = some true := by
   rw [seen_set (by omega)]
   exact ⟨fun h => h.elim (fun e => absurd e hv) id, .inr⟩
  simp only [wtf, this])
 have h2 : wtf E (seen.set s true) s = 0 := by
  rw [wtf, if_pos ((seen_set (by omega) s).2 (.inl rfl))]
 have h3 : wtf E seen s = (E s).length := by rw [wtf, if_neg h0]
 rw [h2, h3] at h1
 exact h1
theorem wt_le {E : Nat → List Nat} {n : Nat} (seen : List Bool) : wt E n seen ≤ sumf (fun v => (E v).length) n := by
 refine sumf_le (fun v _ => ?_)
 unfold wtf
 split <;> omega

/-- The states that are reached, ascending. -/
structure IsReach (E : Nat → List Nat) (fr vs : List Nat) : Prop where
 asc : vs.Pairwise (· < ·)
 mem : ∀ v, v ∈ vs ↔ ∃ s ∈ fr, Path E s v
theorem asc_unique : ∀ {a b : List Nat}, a.Pairwise (· < ·) → b.Pairwise (· < ·) → (∀ v, v ∈ a ↔ v ∈ b) → a = b
 | [], [], _, _, _ => rfl
 | [], y :: q, _, _, h => absurd ((h y).2 (List.mem_cons_self ..)) (by simp)
 | x :: r, [], _, _, h => absurd ((h x).1 (List.mem_cons_self ..)) (by simp)
 | x :: r, y :: q, ha, hb, h => by
  have h1 := List.pairwise_cons.1 ha
  have h2 := List.pairwise_cons.1 hb
  have hxy : x = y := by
   rcases List.mem_cons.1 ((h x).1 (List.mem_cons_self ..)) with e | e
   ·exact e
   ·rcases List.mem_cons.1 ((h y).2 (List.mem_cons_self ..)) with e' | e'
    ·exact e'.symm
    ·have := h2.1 x e
     have := h1.1 y e'
     omega
  subst hxy
  rw [asc_unique h1.2 h2.2 (fun v => ?_)]
  have h3 := h v
  simp only [List.mem_cons] at h3
  constructor
  ·intro hv
   rcases h3.1 (.inr hv) with e | e
   ·have := h1.1 v hv; omega
   ·exact e
  ·intro hv
   rcases h3.2 (.inr hv) with e | e
   ·have := h2.1 v hv; omega
   ·exact e
theorem IsReach.unique {E : Nat → List Nat} {fr a b : List Nat} (ha : IsReach E fr a) (hb : IsReach E fr b) : a = b :=
 asc_unique ha.asc hb.asc (fun v => (ha.mem v).trans (hb.mem v).symm)

/-- The entries below k that are true. -/
def trues (seen : List Bool) (k : Nat) : List Nat := (List.range k).filter fun v => decide (seen[v]? = some true)
theorem trues_yes {seen : List Bool} {k : Nat} (h : seen[k]? = some true) : trues seen (k + 1) = trues seen k ++ [k] := by
 simp [trues, List.range_succ, List.filter_append, h]
theorem trues_no {seen : List Bool} {k : Nat} (h : seen[k]? ≠ some true) : trues seen (k + 1) = trues seen k := by
 simp [trues, List.range_succ, List.filter_append, h]
theorem trues_len (seen : List Bool) (k : Nat) : (trues seen k).length ≤ k := by
 have := List.length_filter_le (fun v => decide (seen[v]? = some true)) (List.range k)
 simpa [trues] using this
theorem trues_reach {E : Nat → List Nat} {n : Nat} {fr : List Nat} {seen : List Bool} (h : Dfs E n fr seen []) : IsReach E fr (trues seen n) := by
 refine ⟨List.Pairwise.filter _ List.pairwise_lt_range, fun v => ?_⟩
 rw [trues, List.mem_filter, List.mem_range, decide_eq_true_eq, h.finish v]
 refine ⟨fun hh => hh.2, fun hh => ⟨?_, hh⟩⟩
 have h1 := (h.finish v).2 hh
 have := (List.getElem?_eq_some_iff.1 h1).1
 have := h.len
 omega

end Go.Proofs.YtikpcipkkhmcfaaGreat
