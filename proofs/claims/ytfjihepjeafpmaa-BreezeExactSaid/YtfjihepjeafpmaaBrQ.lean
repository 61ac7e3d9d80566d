/- The map of who is apart and the table of 49, for every two numbers; an append of what lies elsewhere. -/
import Derived.Test.YtfjihepjeafpmaaBrK
namespace Go.Proofs.Ytfjihepjeafpmaa
open Go.RowKit

/-- Two numbers of which one is no node's are in no key. -/
structure Tab2 (A : List Bool) (l : List ((Int × Int) × Bool)) : Prop where
  tab : Tab A l
  out : ∀ x y : Int, ¬ (1 ≤ x ∧ x ≤ 6 ∧ 1 ≤ y ∧ y ≤ 6) → lval (encK x y) l = none
theorem tab20 : Tab2 (List.replicate 49 false) [] := ⟨tab0, fun _ _ _ => rfl⟩
theorem Tab.same {A : List Bool} {l : List ((Int × Int) × Bool)} (h : Tab A l) (k : Int × Int) (hk : lval k l = none) : Tab A (ldel k l) := by
  have e : ∀ k', lval k' (ldel k l) = lval k' l := fun k' => by
    rw [lval_del _ _ _ h.nd]
    split
    · rename_i e; rw [e, hk]
    · rfl
  exact ⟨h.len, nodup_del _ _ h.nd, fun x => by rw [e]; exact h.diag x, fun x y a b c d => by rw [apartB_val, e, ← apartB_val]; exact h.eq x y a b c d⟩
/-- What Set makes of the table. -/
def setA (A : List Bool) (x y : Int) (b : Bool) : List Bool := if pairB x y then (A.set (x.toNat * 7 + y.toNat) b).set (y.toNat * 7 + x.toNat) b else A
def nodeB (x : Int) : Bool := decide (1 ≤ x) && decide (x ≤ 6)
def apartA (A : List Bool) (x y : Int) : Bool := nodeB x && nodeB y && A.getD (x.toNat * 7 + y.toNat) false
theorem nodeB_iff (x : Int) : nodeB x = true ↔ 1 ≤ x ∧ x ≤ 6 := by simp [nodeB]
theorem pairB_iff (x y : Int) : pairB x y = true ↔ (1 ≤ x ∧ x ≤ 6) ∧ (1 ≤ y ∧ y ≤ 6) ∧ x ≠ y := by
  simp [pairB]; omega
theorem toNat_of {x : Int} (h : 1 ≤ x) : ∃ n : Nat, x = n ∧ x.toNat = n := ⟨x.toNat, by omega, rfl⟩
theorem Tab2.cut {A : List Bool} {l : List ((Int × Int) × Bool)} (h : Tab2 A l) (x y : Int) : Tab2 (setA A x y true) (cutL l x y) := by
  unfold setA cutL
  cases hp : pairB x y with
  | false => exact h
  | true =>
    obtain ⟨⟨a1, a2⟩, ⟨b1, b2⟩, hne⟩ := (pairB_iff x y).1 hp
    obtain ⟨n, rfl, hn⟩ := toNat_of a1
    obtain ⟨m, rfl, hm⟩ := toNat_of b1
    have h1 := h.tab.cut (x := n) (y := m) (by omega) (by omega) (by omega) (by omega) (by omega)
    unfold cutL at h1
    rw [hp] at h1
    simp only [if_true] at h1 ⊢
    rw [hn, hm]
    refine ⟨h1, fun p q hpq => ?_⟩
    rw [lval_put, if_neg (by rw [encK_eq]; omega)]
    exact h.out p q hpq
theorem Tab2.heal {A : List Bool} {l : List ((Int × Int) × Bool)} (h : Tab2 A l) (x y : Int) : Tab2 (setA A x y false) (ldel (encK y x) l) := by
  have hout : ∀ p q : Int, ¬ (1 ≤ p ∧ p ≤ 6 ∧ 1 ≤ q ∧ q ≤ 6) → lval (encK p q) (ldel (encK y x) l) = none := fun p q hpq => by
    rw [lval_del _ _ _ h.tab.nd]
    split
    · rfl
    · exact h.out p q hpq
  refine ⟨?_, hout⟩
  unfold setA
  cases hp : pairB x y with
  | false =>
    simp only [Bool.false_eq_true, if_false]
    refine h.tab.same _ ?_
    by_cases he : x = y
    · subst he; exact h.tab.diag x
    · refine h.out y x (fun hh => ?_)
      have := (pairB_iff x y).2 ⟨⟨hh.2.2.1, hh.2.2.2⟩, ⟨hh.1, hh.2.1⟩, he⟩
      rw [this] at hp
      cases hp
  | true =>
    obtain ⟨⟨a1, a2⟩, ⟨b1, b2⟩, hne⟩ := (pairB_iff x y).1 hp
    obtain ⟨n, rfl, hn⟩ := toNat_of a1
    obtain ⟨m, rfl, hm⟩ := toNat_of b1
    have h1 := h.tab.heal (x := n) (y := m) (by omega) (by omega) (by omega) (by omega)
    simp only [if_true]
    rw [hn, hm]
    exact h1
theorem Tab2.apart {A : List Bool} {l : List ((Int × Int) × Bool)} (h : Tab2 A l) (x y : Int) : apartB l x y = apartA A x y := by
  unfold apartA
  by_cases hx : nodeB x = true
  · by_cases hy : nodeB y = true
    · rw [hx, hy]
      obtain ⟨a1, a2⟩ := (nodeB_iff x).1 hx
      obtain ⟨b1, b2⟩ := (nodeB_iff y).1 hy
      obtain ⟨n, rfl, hn⟩ := toNat_of a1
      obtain ⟨m, rfl, hm⟩ := toNat_of b1
      rw [hn, hm]
      simp only [Bool.true_and]
      exact (h.tab.eq n m (by omega) (by omega) (by omega) (by omega)).symm
    · rw [apartB_val, h.out x y (fun hh => hy ((nodeB_iff y).2 ⟨hh.2.2.1, hh.2.2.2⟩))]
      simp [hy]
  · rw [apartB_val, h.out x y (fun hh => hx ((nodeB_iff x).2 ⟨hh.1, hh.2.1⟩))]
    simp [hx]
theorem setA_len (A : List Bool) (x y : Int) (b : Bool) : (setA A x y b).length = A.length := by
  unfold setA; split <;> simp

/-- 'append(s, x ..)' at a row of the call's own, the new elements lying anywhere; there may be none. -/
theorem wpList_append_lies {P : Program} {w : World} {ops : Array Oper} {rest : List Oper} {o : Oper} {a : Act} {Q : Exit → Act → World → Prop} (hgd : o.guard = none) (s x : Operand) (t : TypeId)
    (ho : o.op = .call { callee := .builtin .append, args := #[s, x], argTypes := #[t, t] })
    {e : TypeId} {size bytes : Nat} (T : ElT P t e size bytes)
    {v : Value} {n : Nat} {xs : List Value} (hown : w.ownsRow 0 e size v n xs) (hs : a.eval s = v)
    (ad : Addr) (m c : Nat) (news : List Value) (hx : a.eval x = .slice (some ad) m c) (hl : news.length = m * size) (hnews : ∀ j u, news[j]? = some u → w.cell? (ad.add j) = some u) (h1 : ∀ u ∈ news, u.oneCell' = true)
    (h63 : n + m ≤ maxLen) (hbytes : (n + m) * bytes ≤ 140737488355328)
    (h : ∀ v' w', w'.ownsRow 0 e size v' (n + m) (xs ++ news) → Chg (fun k => v.ownBlock = some k) w w' → (∀ k, v'.ownBlock = some k → v.ownBlock = some k ∨ w.heap.size ≤ k) →
      wpList P ops Q rest (a.put o.dst v') w') : wpList P ops Q (o :: rest) a w :=
  wpList_plain hgd fun _ hK => by
    obtain ⟨i, z, hi, hz, h2, h3, h4, _⟩ := T.info
    obtain ⟨v', w', hr, h2, h3, h4, _⟩ := run_append_chg (P := P) w t o.type e i z size bytes T.ht hi hz h2 h3 h4 T.pos v n xs hown ad m c news hl hnews h1 h63 hbytes
    unfold Oper.wp execOp
    simp only [ho, resolve, invoke, builtin, Sem.run_bind, Sem.run_pure, Result.andThen_ok, List.map_toArray, List.map_cons, List.map_nil, hs, hx, hr]
    exact hK _ _ (h v' w' h2 h3 h4)
end Go.Proofs.Ytfjihepjeafpmaa
