/- What holds of every entry of Of. Plain, no program. -/
import Derived.Test.YtikpcipkkhmcfaaGreatQ08
namespace Go.Proofs.YtikpcipkkhmcfaaGreat.Beh

theorem addL_inv {k : Wk} {P : List Nat × En → Prop} {set : List Nat} {t : List Int} : ∀ (l : List Int) (st st' : St), (∀ e ∈ l, P (newE k set t e)) → (∀ p ∈ st, P p) → addL k set t l st = some st' → ∀ p ∈ st', P p
 | [], st, st', _, hs, h => by
  simp only [addL, Option.some.injEq] at h
  subst h
  exact hs
 | e :: r, st, st', hl, hs, h => by
  rw [addL] at h
  split at h
  ·cases h
  ·exact addL_inv r _ _ (fun e' he => hl e' (List.mem_cons_of_mem _ he)) (fun p hp => by
    rcases List.mem_append.1 hp with h9 | h9
    ·exact hs p h9
    ·rw [List.mem_singleton.1 h9]
     exact hl e (List.mem_cons_self ..)) h
theorem ofGo_inv {k : Wk} {n : Nat} {P : List Nat × En → Prop} (hP : ∀ p e, P p → e ∈ k.ev p.1 → P (newE k p.1 p.2.1 e)) : ∀ (f i : Nat) (st st' : St), (∀ p ∈ st, P p) → ofGo k n f i st = some st' → ∀ p ∈ st', P p
 | 0, i, st, st', hs, he => by
  simp only [ofGo, Option.some.injEq] at he
  subst he
  exact hs
 | f + 1, i, st, st', hs, he => by
  cases hp : st[i]? with
  | none =>
   rw [of_end (by rw [List.getElem?_eq_none_iff] at hp; exact hp)] at he
   cases he
   exact hs
  | some p =>
   by_cases hn : p.2.1.length = n
   ·rw [of_same hp hn] at he
    exact ofGo_inv hP f (i + 1) st st' hs he
   ·rw [of_step hp hn] at he
    cases ha : addL k p.1 p.2.1 (k.ev p.1) st with
    | none => rw [ha] at he; cases he
    | some st1 =>
     rw [ha] at he
     exact ofGo_inv hP f (i + 1) st1 st' (addL_inv _ _ _ (fun e h9 => hP p e (hs p (List.mem_of_getElem? hp)) h9) hs ha) he
theorem ofB_inv {k : Wk} {n : Nat} {s0 : List Nat} {st : St} {P : List Nat × En → Prop} (h0 : P (s0, k.ent [] s0)) (hP : ∀ p e, P p → e ∈ k.ev p.1 → P (newE k p.1 p.2.1 e)) (h : ofB k n s0 = some st) : ∀ p ∈ st, P p :=
 ofGo_inv hP _ _ _ _ (fun p hp => by rw [List.mem_singleton.1 hp]; exact h0) h
end Go.Proofs.YtikpcipkkhmcfaaGreat.Beh
