/- Plain: an instance and its permutation are alike in every round. -/
import Derived.Test.YtdknbgejhhoaiaaGreatQ40
import Derived.Test.YtdknbgejhhoaiaaGreatQ41
namespace Go.Proofs.YtdknbgejhhoaiaaGreat.Ind
open Go.RowKit

theorem asc_ascB : ∀ {row : List Ar}, Asc ltAr row → Go.Proofs.YtdknbgejhhoaiaaGreat.ascB row = true
  | [], _ => rfl
  | [_], _ => rfl
  | a :: b :: r, h => by
    rw [Go.Proofs.YtdknbgejhhoaiaaGreat.ascB, Bool.and_eq_true]
    unfold Asc at h
    rw [List.pairwise_cons] at h
    exact ⟨h.1 b (by simp), asc_ascB h.2⟩
theorem loose_of (N : Nat) : ∀ (l : List (List Ar)) (c : Nat), (∀ row ∈ l, row.length ≤ 192 ∧ ∀ a ∈ row, 0 ≤ a.1 ∧ a.1 ≤ 1025 ∧ 0 ≤ a.2 ∧ a.2 < (N : Int)) → c + 192 * l.length ≤ 262144 → looseGo N c l = true
  | [], _, _, _ => rfl
  | row :: r, c, h, hc => by
    have h1 := h row (by simp)
    simp only [List.length_cons] at hc
    simp only [looseGo, Bool.and_eq_true, decide_eq_true_eq]
    refine ⟨by omega, ?_, loose_of N r _ (fun x hx => h x (List.mem_cons_of_mem _ hx)) (by omega)⟩
    rw [List.all_eq_true]
    intro a ha
    have h2 := h1.2 a ha
    exact arcOk_of h2.1 h2.2.1 h2.2.2.1 h2.2.2.2
theorem valid_of {l : List (List Ar)} (h1 : 1 ≤ l.length) (h2 : l.length ≤ 48) (h : ∀ row ∈ l, Asc ltAr row ∧ row.length ≤ 192 ∧ ∀ a ∈ row, 0 ≤ a.1 ∧ a.1 ≤ 1025 ∧ 0 ≤ a.2 ∧ a.2 < (l.length : Int)) : validB l = true := by
  simp only [validB, looseB, Bool.and_eq_true, decide_eq_true_eq]
  refine ⟨⟨⟨h1, by omega⟩, loose_of _ l 0 (fun row hr => (h row hr).2) (by omega)⟩, ?_⟩
  rw [List.all_eq_true]
  exact fun row hr => asc_ascB (h row hr).1
theorem pp_a : PermP [0, 2, 1] 3 := ⟨rfl, rfl, by simp, by simp⟩
theorem pp_b : PermP [0, 1, 2] 3 := ⟨rfl, rfl, by simp, by simp⟩
theorem pp_c : PermP [0, 2, 1, 3] 4 := ⟨rfl, rfl, by simp, by simp⟩
theorem pp_d : PermP [0, 2, 3, 1] 4 := ⟨rfl, rfl, by simp, by simp⟩

/-- What the law wants of an instance and its permutation. -/
structure SymOk (m : RM) (n : Nat) (pi : List Int) (rows q : List (List Ar)) : Prop where
  inst : instR m n = some rows
  perm : PermOk m n pi rows
  can : q = (canB (rows.map (permW (m.data * n).toNat n pi))).out
  v1 : validB rows = true
  v2 : validB q = true
  lok : LOk (bothL rows q) (rows.length + q.length)
  few : rows.length + q.length ≤ 96
  same : ∀ r, (rnd (bothL rows q) (rows.length + q.length) r)[0]? = (rnd (bothL rows q) (rows.length + q.length) r)[rows.length]?
theorem sym_ok {m : RM} {n : Nat} {pi : List Int} (hm : Sm m) (g : PG pi n) (hp : PermP pi n) : ∃ rows q, SymOk m n pi rows q := by
  have h34 := g.n34
  have hd := hm.data
  have hpl := hm.plain
  obtain ⟨s, hs, io⟩ := inst_some hm g
  have hN := io.rows
  have h48 := io.few hm (by omega)
  have hpos : 0 < s.all.length := by
    have := (List.getElem?_eq_some_iff.1 io.head).1
    exact this
  -- the rows' arcs
  have harc : ∀ (k : Nat) (row : List Ar), s.rows[k]? = some row → ∀ a ∈ row, ∃ p x, s.all[k]? = some p ∧ GQ m n p ∧ s.all[a.2.toNat]? = some x ∧ (a.1, x) ∈ edgesB m n p ∧ 0 ≤ a.2 ∧ a.2 < (s.rows.length : Int) := fun k row hk a ha => by
    obtain ⟨p, hp, _, _, h3, h4⟩ := io.row k row hk
    have hb := h3 a ha
    obtain ⟨x, hx⟩ : ∃ x, s.all[a.2.toNat]? = some x := ⟨_, List.getElem?_eq_getElem (by omega)⟩
    exact ⟨p, x, hp, io.good p (List.mem_of_getElem? hp), hx, (h4 _ _).2 ⟨a.2.toNat, hx, by rw [Int.toNat_of_nonneg hb.1]; exact ha⟩, hb.1, by omega⟩
  have v1 : validB s.rows = true := valid_of (by omega) (by omega) (fun row hr => by
    obtain ⟨k, hk⟩ := List.getElem?_of_mem hr
    obtain ⟨p, _, h1, h2, _, _⟩ := io.row k row hk
    refine ⟨h1, h2, fun a ha => ?_⟩
    obtain ⟨p, x, _, hg, _, he, hb⟩ := harc k row hk a ha
    have := (edges_gq hm g hg he).2
    rw [hd, hpl] at this
    simp only at this
    omega)
  have hbig : bigE (2 + m.data * n + m.plain) s.rows = false := by
    rw [bigE, List.any_eq_false]
    intro row hr h9
    rw [bigW, List.any_eq_true] at h9
    obtain ⟨a, ha, h9⟩ := h9
    obtain ⟨k, hk⟩ := List.getElem?_of_mem hr
    obtain ⟨p, x, _, hg, _, he, hb⟩ := harc k row hk a ha
    have := (edges_gq hm g hg he).2
    rw [decide_eq_true_eq] at h9
    simp only at this
    omega
  obtain ⟨l', hl'⟩ : ∃ l', l' = s.rows.map (permW (m.data * n).toNat n pi) := ⟨_, rfl⟩
  have hll : l'.length = s.rows.length := by rw [hl', List.length_map]
  have hinto : Into l' := fun row hr a ha => by
    rw [hl'] at hr
    obtain ⟨r0, hr0, rfl⟩ := List.mem_map.1 hr
    obtain ⟨b, hb, rfl⟩ := List.mem_map.1 ha
    obtain ⟨k, hk⟩ := List.getElem?_of_mem hr0
    obtain ⟨_, _, _, _, _, _, hb1, hb2⟩ := harc k r0 hk b hb
    rw [hll]
    exact ⟨hb1, hb2⟩
  have ci := can_all hinto (by omega)
  have hat : ∀ o : Nat, o < s.rows.length → ∃ row, s.rows[o]? = some row ∧ l'[o]? = some (permW (m.data * n).toNat n pi row) := fun o ho => by
    obtain ⟨row, hrow⟩ : ∃ row, s.rows[o]? = some row := ⟨_, List.getElem?_eq_getElem ho⟩
    exact ⟨row, hrow, by rw [hl', List.getElem?_map, hrow]; rfl⟩
  have hno := ci.ok.ok.few
  have hout := ci.ok.out
  have hno0 : 0 < (canB l').no.2.length := (List.getElem?_eq_some_iff.1 ci.head).1
  -- a row of the canonical form
  have hcan : ∀ (k : Nat) (row : List Ar), (canB l').out[k]? = some row → ∃ (o : Nat) (r0 : List Ar), (canB l').no.2[k]? = some (o : Int) ∧ s.rows[o]? = some r0 ∧ Asc ltAr row ∧ row.length ≤ 192 ∧ (∀ a ∈ row, 0 ≤ a.2 ∧ a.2 < (canB l').no.2.length) ∧ (∀ e z, (∃ x ∈ r0, permA (m.data * n).toNat n pi x = (e, z)) ↔ ∃ t : Nat, (canB l').no.2[t]? = some z ∧ (e, (t : Int)) ∈ row) := fun k row hk => by
    obtain ⟨o, ho, h1, h2, h3, h4⟩ := ci.row k row hk
    obtain ⟨o0, o1, _⟩ := ci.ok.ok.old k o ho
    obtain ⟨r0, hr0, hr1⟩ := hat o.toNat (by omega)
    rw [hr1, Option.getD_some] at h2 h4
    obtain ⟨_, _, _, hl192, _, _⟩ := io.row _ r0 hr0
    refine ⟨o.toNat, r0, by rw [Int.toNat_of_nonneg o0]; exact ho, hr0, h1, by simp only [permW, List.length_map] at h2; omega, h3, fun e z => ?_⟩
    rw [← h4, permW, List.mem_map]
  -- what is alike
  obtain ⟨N0, hN0⟩ : ∃ N0, N0 = s.rows.length := ⟨_, rfl⟩
  obtain ⟨q, hq⟩ : ∃ q, q = (canB l').out := ⟨_, rfl⟩
  have hql : q.length = (canB l').no.2.length := by rw [hq, hout]
  have hLa : ∀ i row, s.rows[i]? = some row → (bothL s.rows q)[i]?.getD [] = row := fun i row hi => by
    rw [bothL, List.getElem?_append_left (List.getElem?_eq_some_iff.1 hi).1, hi]
    rfl
  have hLb : ∀ k row, q[k]? = some row → (bothL s.rows q)[N0 + k]?.getD [] = shR N0 row := fun k row hk => by
    rw [bothL, List.getElem?_append_right (by omega), hN0, Nat.add_sub_cancel_left, List.getElem?_map, hk]
    rfl
  have hLl : (bothL s.rows q).length = s.rows.length + q.length := by simp [bothL]
  have hbis : Bis (bothL s.rows q) (fun i j => ∃ (k o : Nat) (p : Pl), j = N0 + k ∧ (canB l').no.2[k]? = some (o : Int) ∧ s.all[o]? = some p ∧ s.all[i]? = some (pp pi p)) := by
    refine ⟨fun i j h => ?_, fun i j h a ha => ?_, fun i j h b hb => ?_⟩
    · obtain ⟨k, o, p, rfl, hk, hp1, hp2⟩ := h
      have h1 := (List.getElem?_eq_some_iff.1 hk).1
      have h2 := (List.getElem?_eq_some_iff.1 hp2).1
      omega
    · obtain ⟨k, o, p, rfl, hk, hp1, hp2⟩ := h
      have h1 := (List.getElem?_eq_some_iff.1 hk).1
      have h2 := (List.getElem?_eq_some_iff.1 hp2).1
      obtain ⟨ri, hri⟩ : ∃ row, s.rows[i]? = some row := ⟨_, List.getElem?_eq_getElem (by omega)⟩
      obtain ⟨qk, hqk⟩ : ∃ row, q[k]? = some row := ⟨_, List.getElem?_eq_getElem (by omega)⟩
      rw [hLa i ri hri] at ha
      rw [hLb k qk hqk]
      obtain ⟨o2, r0, ho2, hr0, _, _, _, hiff⟩ := hcan k qk (by rw [← hq]; exact hqk)
      rw [hk] at ho2
      have ho3 : o = o2 := by
        simp only [Option.some.injEq] at ho2
        omega
      subst ho3
      obtain ⟨p2, x, hp3, _, hx, he, hb0, hb1⟩ := harc i ri hri a ha
      rw [hp2] at hp3
      cases hp3
      obtain ⟨y, hy, e9⟩ := (edges_pp hm g (io.good p (List.mem_of_getElem? hp1)) (a.1, x)).1 he
      obtain ⟨p4, hp4, _, _, _, h4⟩ := io.row o r0 hr0
      rw [hp1] at hp4
      cases hp4
      obtain ⟨o', ho', hmem⟩ := (h4 y.1 y.2).1 hy
      obtain ⟨k', hk', hm'⟩ := (hiff (permE (m.data * n).toNat n pi y.1) (o' : Int)).1 ⟨(y.1, (o' : Int)), hmem, rfl⟩
      refine ⟨(permE (m.data * n).toNat n pi y.1, (k' : Int) + (N0 : Int)), List.mem_map.2 ⟨_, hm', rfl⟩, ?_, k', o', y.2, by simp only; omega, hk', ho', ?_⟩
      · exact (congrArg (·.1) e9).symm
      · rw [hx]
        exact congrArg some (congrArg (·.2) e9)
    · obtain ⟨k, o, p, rfl, hk, hp1, hp2⟩ := h
      have h1 := (List.getElem?_eq_some_iff.1 hk).1
      have h2 := (List.getElem?_eq_some_iff.1 hp2).1
      obtain ⟨ri, hri⟩ : ∃ row, s.rows[i]? = some row := ⟨_, List.getElem?_eq_getElem (by omega)⟩
      obtain ⟨qk, hqk⟩ : ∃ row, q[k]? = some row := ⟨_, List.getElem?_eq_getElem (by omega)⟩
      rw [hLb k qk hqk] at hb
      rw [hLa i ri hri]
      obtain ⟨o2, r0, ho2, hr0, _, _, h3, hiff⟩ := hcan k qk (by rw [← hq]; exact hqk)
      rw [hk] at ho2
      have ho3 : o = o2 := by
        simp only [Option.some.injEq] at ho2
        omega
      subst ho3
      obtain ⟨⟨e', t'⟩, hc, rfl⟩ := List.mem_map.1 hb
      obtain ⟨c0, c1⟩ := h3 _ hc
      simp only at c0 c1
      obtain ⟨k', rfl⟩ : ∃ k' : Nat, t' = k' := ⟨t'.toNat, by omega⟩
      obtain ⟨z, hz⟩ : ∃ z, (canB l').no.2[k']? = some z := ⟨_, List.getElem?_eq_getElem (by omega)⟩
      obtain ⟨⟨e, z2⟩, hy, e9⟩ := (hiff e' z).2 ⟨k', hz, hc⟩
      simp only [permA, Prod.mk.injEq] at e9
      obtain ⟨rfl, rfl⟩ := e9
      obtain ⟨p4, x, hp4, hg4, hx, hed, z0, z1⟩ := harc o r0 hr0 _ hy
      rw [hp1] at hp4
      cases hp4
      simp only at hx hed z0 z1
      have hpp := (edges_pp hm g hg4 (pm m n pi (e, x))).2 ⟨(e, x), hed, rfl⟩
      obtain ⟨p5, hp5, _, _, _, h5⟩ := io.row i ri hri
      rw [hp2] at hp5
      cases hp5
      obtain ⟨t, ht, hmem⟩ := (h5 _ _).1 hpp
      refine ⟨_, hmem, rfl, k', z2.toNat, x, by simp only; omega, by rw [Int.toNat_of_nonneg z0]; exact hz, hx, ?_⟩
      simp only [Int.toNat_natCast]
      exact ht
  have hqrow : ∀ row ∈ q, Asc ltAr row ∧ row.length ≤ 192 ∧ ∀ a ∈ row, 0 ≤ a.1 ∧ a.1 ≤ 1025 ∧ 0 ≤ a.2 ∧ a.2 < (q.length : Int) := fun row hr => by
    obtain ⟨k, hk⟩ := List.getElem?_of_mem hr
    obtain ⟨o, r0, ho, hr0, h1, h2, h3, hiff⟩ := hcan k row (by rw [← hq]; exact hk)
    refine ⟨h1, h2, fun a ha => ?_⟩
    have hb := h3 a ha
    obtain ⟨z, hz⟩ : ∃ z, (canB l').no.2[a.2.toNat]? = some z := ⟨_, List.getElem?_eq_getElem (by omega)⟩
    obtain ⟨y, hy, e9⟩ := (hiff a.1 z).2 ⟨a.2.toNat, hz, by rw [Int.toNat_of_nonneg hb.1]; exact ha⟩
    obtain ⟨p4, x, hp4, hg4, hx, hed, _, _⟩ := harc o r0 hr0 _ hy
    have hpp := (edges_pp hm g hg4 (pm m n pi (y.1, x))).2 ⟨(y.1, x), hed, rfl⟩
    have := (edges_gq hm g (hg4.pp g) hpp).2
    have e10 : permE (m.data * n).toNat n pi y.1 = a.1 := congrArg (·.1) e9
    simp only [pm] at this
    rw [e10, hd, hpl] at this
    omega
  have v2 : validB q = true := valid_of (by omega) (by omega) hqrow
  have hv1 : ∀ row ∈ s.rows, row.length ≤ 192 ∧ ∀ a ∈ row, 0 ≤ a.1 ∧ a.1 ≤ 1025 ∧ 0 ≤ a.2 ∧ a.2 < (s.rows.length : Int) := fun row hr => by
    obtain ⟨k, hk⟩ := List.getElem?_of_mem hr
    obtain ⟨p, _, h1, h2, _, _⟩ := io.row k row hk
    refine ⟨h2, fun a ha => ?_⟩
    obtain ⟨p, x, _, hg, _, he, hb⟩ := harc k row hk a ha
    have := (edges_gq hm g hg he).2
    rw [hd, hpl] at this
    simp only at this
    omega
  have lok : LOk (bothL s.rows q) (s.rows.length + q.length) := by
    refine ⟨hLl, fun row hr a ha => ?_, fun row hr => ?_⟩
    · rcases List.mem_append.1 hr with hr | hr
      · have := (hv1 row hr).2 a ha
        omega
      · obtain ⟨r0, hr0, rfl⟩ := List.mem_map.1 hr
        obtain ⟨b, hb, rfl⟩ := List.mem_map.1 ha
        have := (hqrow r0 hr0).2.2 b hb
        simp only
        omega
    · rcases List.mem_append.1 hr with hr | hr
      · have := (hv1 row hr).1
        omega
      · obtain ⟨r0, hr0, rfl⟩ := List.mem_map.1 hr
        have := (hqrow r0 hr0).2.1
        simp only [shR, List.length_map]
        omega
  refine ⟨s.rows, q, hs, ⟨hm.valid, hp, v1, hbig⟩, by rw [hq, hl'], v1, v2, lok, by omega, fun r => ?_⟩
  have h9 := bis_rnd hbis r 0 N0 ⟨0, 0, (0, [0, 0, 0, 0]), rfl, ci.head, io.head, by rw [io.head]; simp [pp, g.z]⟩
  rw [hLl] at h9
  rw [h9, hN0]
end Go.Proofs.YtdknbgejhhoaiaaGreat.Ind
