/- A frame for worlds: which blocks may have changed; small laws on blocks. -/
import Derived.WalkKit
import Derived.WalkSpells
import Derived.WalkLawsBesides
import Derived.Lib.ConvBytes

namespace Go.Proofs.YtijiggolphppbaaGreatDoor
open Go.RowKit

theorem hid {p : Prop} (h : p) : Hid p := h

/-- The call returns v, and the world behind it is such. -/
def Rets (v : Value) (Q : World → Prop) : Ending → World → Prop := fun e w' => e = .returned v ∧ Q w'

/-- Blocks that were there and are not in F are as they were; no block has gone. -/
structure Chg (F : Nat → Prop) (w w' : World) : Prop where
  os : w'.os = w.os
  tape : w'.tape = w.tape
  output : w'.output = w.output
  size : w.heap.size ≤ w'.heap.size
  block : ∀ k, k < w.heap.size → ¬ F k → w'.heap[k]? = w.heap[k]?

theorem Chg.refl (F : Nat → Prop) (w : World) : Chg F w w := ⟨rfl, rfl, rfl, Nat.le_refl _, fun _ _ _ => rfl⟩
/-- The second step may also change what the first one has made. -/
theorem Chg.trans {F G : Nat → Prop} {a b c : World} (h : Chg F a b) (k : Chg G b c) (hG : ∀ i, i < a.heap.size → G i → F i) : Chg F a c :=
  ⟨k.os.trans h.os, k.tape.trans h.tape, k.output.trans h.output, Nat.le_trans h.size k.size,
    fun i hi hn => (k.block i (Nat.lt_of_lt_of_le hi h.size) (fun g => hn (hG i hi g))).trans (h.block i hi hn)⟩
theorem Chg.mono {F G : Nat → Prop} {a b : World} (h : Chg F a b) (hG : ∀ i, i < a.heap.size → F i → G i) : Chg G a b :=
  ⟨h.os, h.tape, h.output, h.size, fun i hi hn => h.block i hi (fun f => hn (hG i hi f))⟩
theorem Chg.drew {F : Nat → Prop} {a w : World} (h : Chg F a w) : Chg F a w.drew := ⟨h.os, h.tape, h.output, h.size, h.block⟩
theorem Chg.drewN {F : Nat → Prop} {a w : World} (h : Chg F a w) (n : Nat) : Chg F a (w.drewN n) := ⟨h.os, h.tape, h.output, h.size, h.block⟩
theorem Chg.alloc {F : Nat → Prop} {a w : World} (h : Chg F a w) (o : Obj) : Chg F a (w.alloc o) :=
  h.trans ⟨rfl, rfl, rfl, by simp, fun k hk _ => Below.heap_alloc _ _ _ hk⟩ (G := fun _ => False) (fun _ _ f => f.elim)
theorem Chg.setCell {F : Nat → Prop} {a w : World} (h : Chg F a w) {p : Addr} (hp : p.block < a.heap.size → F p.block) (u : Value) : Chg F a (w.setCell p u) :=
  h.trans ⟨rfl, rfl, rfl, by simp [World.setCell], fun k _ hn => Below.heap_setCell _ _ _ _ hn⟩ (G := fun i => i = p.block) (fun i hi e => by subst e; exact hp hi)
theorem Chg.grown {F : Nat → Prop} {a w w' : World} {row : Option Nat} (h : Chg F a w) (hg : w.grownBy w' row) (hr : ∀ k, row = some k → k < a.heap.size → F k) : Chg F a w' :=
  h.trans ⟨hg.os, hg.tape, hg.output, hg.size, fun k hk hn => hg.block k hk (fun e => hn e.symm)⟩ (G := fun i => row = some i) (fun i hi e => hr i e hi)
theorem Chg.setRow {F : Nat → Prop} {a w : World} (h : Chg F a w) {g : Nat} (hp : g < a.heap.size → F g) (cs : Array Value) : Chg F a (w.setRow g cs) :=
  h.trans ⟨rfl, rfl, rfl, by simp [World.setRow], fun k _ hn => by simp [World.setRow, Array.getElem?_modify]; intro e; exact absurd e.symm hn⟩ (G := fun i => i = g) (fun i hi e => by subst e; exact hp hi)
/-- All that was there is as it was. -/
theorem Chg.below {F : Nat → Prop} {B : Nat} {w w' : World} (h : Chg F w w') (hB : B ≤ w.heap.size) (hF : ∀ k, k < B → ¬ F k) : Below B w w' :=
  ⟨h.os, h.tape, h.output, h.size, fun k hk => h.block k (Nat.lt_of_lt_of_le hk hB) (hF k hk)⟩
theorem Chg.of_below {B : Nat} {w w' : World} (h : Below B w w') : Chg (fun k => B ≤ k) w w' :=
  ⟨h.os, h.tape, h.output, h.size, fun k _ hn => h.block k (by omega)⟩
theorem Chg.obj {F : Nat → Prop} {w w' : World} (h : Chg F w w') {k : Nat} {o : Obj} (ho : w.heap[k]? = some o) (hn : ¬ F k) : w'.heap[k]? = some o := by
  have hk : k < w.heap.size := (Array.getElem?_eq_some_iff.1 ho).1
  rw [h.block k hk hn]; exact ho
theorem Chg.cell {F : Nat → Prop} {w w' : World} (h : Chg F w w') {p : Addr} {v : Value} (hc : w.cell? p = some v) (hn : ¬ F p.block) : w'.cell? p = some v :=
  (World.cell?_of_block (h.block p.block (World.block_lt_of_cell? w p hc) hn)).trans hc
theorem Chg.owns {F : Nat → Prop} {w w' : World} (h : Chg F w w') {base : Nat} {e : TypeId} {size : Nat} {v : Value} {n : Nat} {xs : List Value}
    (ho : w.ownsRow base e size v n xs) (hn : ∀ k, v.ownBlock = some k → ¬ F k) : w'.ownsRow base e size v n xs := by
  refine ⟨ho.1, ?_⟩
  rcases ho.2 with hn' | ⟨g, cap, cur, rfl, hb, hgg, rest⟩
  · exact .inl hn'
  · exact .inr ⟨g, cap, cur, rfl, hb, h.obj hgg (hn g rfl), rest⟩

theorem heap_lt {w : World} {b : Nat} {o : Obj} (h : w.heap[b]? = some o) : b < w.heap.size := (Array.getElem?_eq_some_iff.1 h).1
theorem heap_alloc_new' (w : World) (o : Obj) : (w.alloc o).heap[w.heap.size]? = some o := heap_alloc_new w o
theorem heap_alloc_old' {w : World} {b : Nat} {o : Obj} (h : w.heap[b]? = some o) (x : Obj) : (w.alloc x).heap[b]? = some o := by
  rw [Below.heap_alloc _ _ _ (heap_lt h)]; exact h
theorem heap_set_same {w : World} {b : Nat} {c : Array Value} {t : TypeId} {fz : Nat × Nat} (h : w.heap[b]? = some (.cells c t fz)) (i : Nat) (u : Value) :
    (w.setCell ⟨b, i, none⟩ u).heap[b]? = some (.cells (c.setIfInBounds i u) t fz) := by
  simp [World.setCell, Array.getElem?_modify, h]
theorem heap_set_other {w : World} {b : Nat} {o : Obj} (h : w.heap[b]? = some o) {a : Addr} (hne : b ≠ a.block) (u : Value) : (w.setCell a u).heap[b]? = some o := by
  rw [Below.heap_setCell _ _ _ _ hne]; exact h
theorem cell_of {w : World} {b : Nat} {c : Array Value} {t : TypeId} {fz : Nat × Nat} (h : w.heap[b]? = some (.cells c t fz)) (i : Nat) : w.cell? ⟨b, i, none⟩ = c[i]? := by
  simp [World.cell?, h]
theorem frozen_of {w : World} {b : Nat} {c : Array Value} {t : TypeId} (h : w.heap[b]? = some (.cells c t (0, 0))) (i : Nat) : w.frozen? ⟨b, i, none⟩ = false := by
  simp [World.frozen?, h]

theorem run_append_chg {P : Program} (w : World) (t ty e : TypeId) (i : TypeInfo) (z : Value) (size bytes : Nat) (ht : P.underlying t = some (.slice e)) (hi : P.info? e = some i) (hz : i.zero = some z)
    (hsize : i.size = size) (hby : i.bytes = bytes) (hzs : z.cells.size = size) (hsz : 0 < size)
    (v : Value) (n : Nat) (xs : List Value) (hown : w.ownsRow 0 e size v n xs)
    (a : Addr) (m c : Nat) (news : List Value) (hl : news.length = m * size) (hnews : ∀ j u, news[j]? = some u → w.cell? (a.add j) = some u) (h1 : ∀ u ∈ news, u.oneCell' = true)
    (h63 : n + m ≤ maxLen) (hbytes : (n + m) * bytes ≤ 140737488355328) :
    ∃ v' w', (Builtin.append_ #[t, t] ty #[v, .slice (some a) m c]).run P w = .ok v' w' ∧ w'.ownsRow 0 e size v' (n + m) (xs ++ news) ∧ Chg (fun k => v.ownBlock = some k) w w' ∧
      (∀ k, v'.ownBlock = some k → v.ownBlock = some k ∨ w.heap.size ≤ k) ∧ (m ≠ 0 → ∃ g cap, v' = .slice (some ⟨g, 0, none⟩) (n + m) cap) := by
  obtain ⟨v', w', hr, ho, hg, _⟩ := run_append_own w 0 t ty e i z size bytes ht hi hz hsize hby hzs hsz v n xs hown a m c news hl hnews h1 h63 hbytes (Nat.zero_le _)
  have hsmall : n + m ≤ 9223372036854775807 := by simp only [maxLen] at h63; omega
  refine ⟨v', w', hr, ho, (Chg.refl _ w).grown hg (fun k hk _ => hk), ?_, ?_⟩
  · intro k hk
    subst hsize hby
    rcases hown.2 with ⟨rfl, rfl⟩ | ⟨g, cap, cur, rfl, hbg, hgg, hnc, hcm, hcs, htake⟩
    · by_cases hm : m = 0
      · subst hm
        rcases ho.2 with ⟨rfl, _⟩ | ⟨g, cap, cur, rfl, _⟩
        · cases hk
        · exfalso
          simp [Builtin.append_, run_underlying ht, sizeOf, typeInfo, hi, Builtin.lenOf, Builtin.firstCells, loadCells, loadCellsFrom] at hr
      · have hr2 := run_append_nil (P := P) w t ty e i z ht hi hz a m c news hl hnews (by omega) (by omega) (by have hb := hbytes; simp only [Nat.zero_add] at hb; omega)
        rw [hr] at hr2
        injection hr2 with e1 e2
        subst e1
        simp [Value.ownBlock] at hk
        exact .inr (by omega)
    · by_cases hroom : n + m ≤ cap
      · obtain ⟨w2, hr2, _⟩ := run_append_fits (P := P) w 0 t ty e i i.size ht hi rfl g n cap xs hown a m c news hl hnews h1 hroom
        rw [hr] at hr2
        injection hr2 with e1 e2
        subst e1
        exact .inl hk
      · have hr2 := run_append_grow (P := P) w t ty e i z ht hi hz ⟨g, 0, none⟩ n cap xs hown.1 (hown.cells (g := g) rfl) a m c news hl hnews (by omega) (by omega) (growslice_fits (by omega) hbytes)
        rw [hr] at hr2
        injection hr2 with e1 e2
        subst e1
        simp [Value.ownBlock] at hk
        exact .inr (by omega)
  · intro hm
    rcases ho.2 with ⟨_, h0⟩ | ⟨g, cap, cur, rfl, _⟩
    · omega
    · exact ⟨g, cap, rfl⟩

/-- 'append(s, x)' at a row of the call's own: where the result lies, and what has changed. -/
theorem wpList_append_chg {P : Program} {w : World} {ops : Array Oper} {rest : List Oper} {o : Oper} {a : Act} {Q : Exit → Act → World → Prop} (hgd : o.guard = none) (s x : Operand) (t : TypeId)
    (ho : o.op = .call { callee := .builtin .append, args := #[s, x], argTypes := #[t, t] })
    (e : TypeId) (i : TypeInfo) (z : Value) (size bytes : Nat) (ht : P.underlying t = some (.slice e)) (hi : P.info? e = some i) (hz : i.zero = some z)
    (hsize : i.size = size) (hby : i.bytes = bytes) (hzs : z.cells.size = size) (hsz : 0 < size)
    (v : Value) (n : Nat) (xs : List Value) (hs : a.eval s = v) (hown : w.ownsRow 0 e size v n xs)
    (ad : Addr) (m c : Nat) (news : List Value) (hx : a.eval x = .slice (some ad) m c) (hl : news.length = m * size) (hnews : ∀ j u, news[j]? = some u → w.cell? (ad.add j) = some u) (h1 : ∀ u ∈ news, u.oneCell' = true)
    (h63 : n + m ≤ maxLen) (hbytes : (n + m) * bytes ≤ 140737488355328) (hm : m ≠ 0)
    (h : ∀ g cap w', w'.ownsRow 0 e size (.slice (some ⟨g, 0, none⟩) (n + m) cap) (n + m) (xs ++ news) → Chg (fun k => v.ownBlock = some k) w w' → (v.ownBlock = some g ∨ w.heap.size ≤ g) →
      wpList P ops Q rest (a.put o.dst (.slice (some ⟨g, 0, none⟩) (n + m) cap)) w') : wpList P ops Q (o :: rest) a w :=
  wpList_plain hgd fun _ hK => by
    obtain ⟨v', w', hr, h2, h3, h4, h5⟩ := run_append_chg (P := P) w t o.type e i z size bytes ht hi hz hsize hby hzs hsz v n xs hown ad m c news hl hnews h1 h63 hbytes
    obtain ⟨g, cap, rfl⟩ := h5 hm
    unfold Oper.wp execOp
    simp only [ho, resolve, invoke, builtin, Sem.run_bind, Sem.run_pure, Result.andThen_ok, List.map_toArray, List.map_cons, List.map_nil, hs, hx, hr]
    exact hK _ _ (h g cap w' h2 h3 (h4 g rfl))

theorem run_len_own {P : Program} {w0 : World} {t e : TypeId} (ht : P.underlying t = some (.slice e)) {base size : Nat} {v : Value} {n : Nat} {xs : List Value} (h : w0.ownsRow base e size v n xs) (w : World) (ty : TypeId) :
    (Builtin.len_ #[t] ty #[v]).run P w = .ok (.int .i64 n) w := by
  rcases h.2 with ⟨rfl, rfl⟩ | ⟨g, cap, cur, rfl, _⟩ <;> (simp [Builtin.len_, run_underlying ht]; rfl)

/-- What a slice type's elements are: the element's type, its cells, its bytes. -/
structure ElT (P : Program) (t e : TypeId) (size bytes : Nat) : Prop where
  ht : P.underlying t = some (.slice e)
  info : ∃ i z, P.info? e = some i ∧ i.zero = some z ∧ i.size = size ∧ i.bytes = bytes ∧ z.cells.size = size ∧ z.cells.toList.all Value.oneCell' = true
  pos : 0 < size
theorem ElT.mk' {P : Program} {t e : TypeId} {size bytes : Nat} {z : Value} (ht : P.underlying t = some (.slice e))
    (h : (P.info? e).map (fun i => (i.zero, i.size, i.bytes)) = some (some z, size, bytes)) (hz : z.cells.size = size) (hp : 0 < size) (h1 : z.cells.toList.all Value.oneCell' = true) : ElT P t e size bytes := by
  obtain ⟨i, hi, h0, h3, h2⟩ := info_parts h
  exact ⟨ht, ⟨i, z, hi, h0, h3, h2, hz, h1⟩, hp⟩

theorem cells_new (w : World) (arr : Array Value) (T : TypeId) : ∀ j u, arr.toList[j]? = some u → (w.alloc (.cells arr T)).cell? ((⟨w.heap.size, 0, none⟩ : Addr).add j) = some u := by
  intro j u hj
  have hadd : (⟨w.heap.size, 0, none⟩ : Addr).add j = ⟨w.heap.size, j, none⟩ := by unfold Addr.add; split <;> simp_all
  rw [hadd, cell_of (heap_alloc_new w _)]
  simpa using hj

/-- 'append(s, x ..)', the new elements just laid by this very statement. -/
theorem wpList_append_new {P : Program} {w : World} {ops : Array Oper} {rest : List Oper} {o : Oper} {a : Act} {Q : Exit → Act → World → Prop} (hgd : o.guard = none) (s x : Operand) (t : TypeId)
    (ho : o.op = .call { callee := .builtin .append, args := #[s, x], argTypes := #[t, t] })
    {e : TypeId} {size bytes : Nat} (T : ElT P t e size bytes)
    {v : Value} {n : Nat} {xs : List Value} (hown : w.ownsRow 0 e size v n xs) (hs : a.eval s = v)
    (arr : Array Value) (m c : Nat) (hx : a.eval x = .slice (some ⟨w.heap.size, 0, none⟩) m c) (hl : arr.toList.length = m * size) (h1 : arr.toList.all Value.oneCell' = true)
    (h63 : n + m ≤ maxLen) (hbytes : (n + m) * bytes ≤ 140737488355328) (hm : m ≠ 0)
    (h : ∀ g cap w', w'.ownsRow 0 e size (.slice (some ⟨g, 0, none⟩) (n + m) cap) (n + m) (xs ++ arr.toList) → Chg (fun k => v.ownBlock = some k) w w' → (v.ownBlock = some g ∨ w.heap.size ≤ g) →
      wpList P ops Q rest (a.put o.dst (.slice (some ⟨g, 0, none⟩) (n + m) cap)) w') : wpList P ops Q (o :: rest) a (w.alloc (.cells arr e)) := by
  obtain ⟨i, z, hi, hz, h2, h3, h4, _⟩ := T.info
  refine wpList_append_chg hgd s x t ho e i z size bytes T.ht hi hz h2 h3 h4 T.pos v n xs hs (hown.alloc _) _ m c arr.toList hx hl (cells_new w arr e) (fun u hu => List.all_eq_true.1 h1 u hu) h63 hbytes hm ?_
  intro g cap w' h5 h6 h7
  refine h g cap w' h5 (((Chg.refl _ w).alloc _).trans h6 (fun _ _ h => h)) (h7.imp id (fun h => by simp at h; omega))

theorem owns_some {w : World} {base : Nat} {e : TypeId} {size : Nat} {v : Value} {n : Nat} {xs : List Value} (h : w.ownsRow base e size v n xs) (hn : 0 < n) :
    ∃ g cap, v = .slice (some ⟨g, 0, none⟩) n cap ∧ n ≤ cap ∧ g < w.heap.size := by
  rcases h.2 with ⟨rfl, rfl⟩ | ⟨g, cap, cur, rfl, _, hg, hc, _⟩
  · omega
  · exact ⟨g, cap, rfl, hc, heap_lt hg⟩

theorem ownsRow_heap {w : World} {e : TypeId} {size g n cap : Nat} {xs : List Value} (h : w.ownsRow 0 e size (.slice (some ⟨g, 0, none⟩) n cap) n xs) :
    ∃ cur, w.heap[g]? = some (.cells cur e (0, 0)) ∧ n ≤ cap ∧ cap ≤ maxLen ∧ cur.size = cap * size ∧ cur.toList.take (n * size) = xs := by
  rcases h.2 with ⟨h', _⟩ | ⟨g', cap', cur, h', _, hg, r⟩
  · cases h'
  · simp only [Value.slice.injEq, Option.some.injEq, Addr.mk.injEq, and_true, true_and] at h'
    obtain ⟨rfl, rfl⟩ := h'
    exact ⟨cur, hg, r⟩

theorem list_shift {α : Type} (C : List α) (p q r : Nat) (hpq : p ≤ q) (hqr : q ≤ r) (hr : r ≤ C.length) :
    (C.take p ++ (C.take r).drop q ++ C.drop (p + (r - q))).take (p + (r - q)) = (C.take r).take p ++ (C.take r).drop q := by
  have hl : (C.take p ++ (C.take r).drop q).length = p + (r - q) := by simp; omega
  rw [show List.take p C = List.take p (List.take r C) from by rw [List.take_take, Nat.min_eq_left (by omega)]] at hl ⊢
  conv => lhs; rw [← hl]
  rw [List.take_left]

/-- 'append(s[:i], s[i+1:]...)'. -/
theorem run_append_shift {P : Program} {w : World} {t e : TypeId} {size bytes : Nat} (T : ElT P t e size bytes) {g n cap : Nat} {xs : List Value} (hown : w.ownsRow 0 e size (.slice (some ⟨g, 0, none⟩) n cap) n xs)
    (h1 : ∀ u ∈ xs, u.oneCell' = true) (i : Nat) (hi : i < n) (a : Addr) (ha : i + 1 < n → a = ⟨g, (i + 1) * size, none⟩) (m c : Nat) (hm : m = n - (i + 1)) (ty : TypeId) :
    ∃ w', (Builtin.append_ #[t, t] ty #[.slice (some ⟨g, 0, none⟩) i cap, .slice (some a) m c]).run P w = .ok (.slice (some ⟨g, 0, none⟩) (n - 1) cap) w' ∧
      w'.ownsRow 0 e size (.slice (some ⟨g, 0, none⟩) (n - 1) cap) (n - 1) (xs.take (i * size) ++ xs.drop ((i + 1) * size)) ∧ Chg (fun k => k = g) w w' := by
  subst hm
  obtain ⟨inf, z, hi', hz, rfl, _, _, _⟩ := T.info
  obtain ⟨cur, hg, hnc, hcm, hcs, htake⟩ := ownsRow_heap hown
  have hxl : xs.length = n * inf.size := hown.1
  have e1 : (i + 1) * inf.size = i * inf.size + inf.size := by rw [Nat.add_mul, Nat.one_mul]
  have e2 : (i + 1) * inf.size + (n - (i + 1)) * inf.size = n * inf.size := by rw [← Nat.add_mul]; congr 1; omega
  have e3 : n * inf.size ≤ cap * inf.size := Nat.mul_le_mul_right _ hnc
  have e4 : (n - 1) * inf.size = i * inf.size + (n - (i + 1)) * inf.size := by rw [← Nat.add_mul]; congr 1; omega
  have hnl : (xs.drop ((i + 1) * inf.size)).length = (n - (i + 1)) * inf.size := by rw [List.length_drop, hxl]; omega
  have hnews : ∀ j u, (xs.drop ((i + 1) * inf.size))[j]? = some u → w.cell? (a.add j) = some u := by
    intro j u hu
    by_cases hin : i + 1 < n
    · rw [ha hin]
      have hadd : (⟨g, (i + 1) * inf.size, none⟩ : Addr).add j = ⟨g, (i + 1) * inf.size + j, none⟩ := by unfold Addr.add; split <;> simp_all
      rw [hadd, hown.cellAt ((i + 1) * inf.size + j) ?_, ← List.getElem?_drop]
      · exact hu
      · have := (List.getElem?_eq_some_iff.1 hu).1
        rw [hnl] at this; omega
    · have := (List.getElem?_eq_some_iff.1 hu).1
      rw [hnl, show n - (i + 1) = 0 from by omega] at this
      omega
  have hr := run_append_room (P := P) w t ty e inf T.ht hi' g i cap cur hg a (n - (i + 1)) c (xs.drop ((i + 1) * inf.size)) hnl hnews (fun u hu => h1 u (List.mem_of_mem_drop hu)) (by omega) (by rw [hnl, hcs]; omega)
  rw [show i + (n - (i + 1)) = n - 1 from by omega] at hr
  refine ⟨_, hr, ⟨?_, .inr ⟨g, cap, _, rfl, Nat.zero_le _, setRow_heap w g cur _ e _ hg, by omega, hcm, ?_, ?_⟩⟩, (Chg.refl (fun k => k = g) w).setRow (fun _ => rfl) _⟩
  · rw [List.length_append, List.length_take, hnl, hxl, e4]; omega
  · simp only [List.size_toArray, List.length_append, List.length_take, List.length_drop, Array.length_toList, hxl, hcs]; omega
  · have hC : n * inf.size ≤ cur.toList.length := by rw [Array.length_toList, hcs]; exact e3
    have := list_shift cur.toList (i * inf.size) ((i + 1) * inf.size) (n * inf.size) (by omega) (by omega) hC
    rw [htake] at this
    rw [hnl, e4, show (n - (i + 1)) * inf.size = n * inf.size - (i + 1) * inf.size from by omega]
    exact this

/-- 'clear(s[n-1:n])'. -/
theorem run_clear_tail {P : Program} {w : World} {t e : TypeId} {size bytes : Nat} (T : ElT P t e size bytes) {g n cap : Nat} {xs : List Value} (hown : w.ownsRow 0 e size (.slice (some ⟨g, 0, none⟩) n cap) n xs)
    (m c : Nat) (hm : m ≠ 0) (hc : n + m ≤ cap) (ty : TypeId) :
    ∃ w', (Builtin.clear_ #[t] ty #[.slice (some ⟨g, n * size, none⟩) m c]).run P w = .ok (.tuple #[]) w' ∧
      w'.ownsRow 0 e size (.slice (some ⟨g, 0, none⟩) n cap) n xs ∧ Chg (fun k => k = g) w w' := by
  obtain ⟨inf, z, hi', hz, rfl, _, hzs, hall⟩ := T.info
  obtain ⟨cur, hg, hnc, hcm, hcs, htake⟩ := ownsRow_heap hown
  have hpos := T.pos
  have e3 : n * inf.size + m * inf.size ≤ cap * inf.size := by rw [← Nat.add_mul]; exact Nat.mul_le_mul_right _ hc
  have hst := run_storeCells_at P g (n * inf.size) e (Builtin.zeroCells z.cells m).toList 0 cur w hg (by simp only [Array.length_toList, size_zeroCells, hzs, hcs]; omega) (by
    intro v hv
    simp only [Builtin.zeroCells, Array.toList_map, List.mem_map] at hv
    obtain ⟨j, _, rfl⟩ := hv
    have hlt : j % z.cells.size < z.cells.size := Nat.mod_lt _ (by omega)
    rw [getElem!_pos z.cells _ hlt]
    exact List.all_eq_true.1 hall _ (by simp))
  simp only [Nat.add_zero] at hst
  have hrun : (Builtin.clear_ #[t] ty #[.slice (some ⟨g, n * inf.size, none⟩) m c]).run P w = .ok (.tuple #[]) (w.setRow g (cur.toList.take (n * inf.size) ++ (Builtin.zeroCells z.cells m).toList ++ cur.toList.drop (n * inf.size + (Builtin.zeroCells z.cells m).toList.length)).toArray) := by
    obtain ⟨m', rfl⟩ : ∃ m', m = m' + 1 := ⟨m - 1, by omega⟩
    simp [Builtin.clear_, run_underlying T.ht, zeroValue, typeInfo, hi', hz, hst]
  refine ⟨_, hrun, ⟨hown.1, .inr ⟨g, cap, _, rfl, Nat.zero_le _, setRow_heap w g cur _ e _ hg, hnc, hcm, ?_, ?_⟩⟩, (Chg.refl (fun k => k = g) w).setRow (fun _ => rfl) _⟩
  · simp only [List.size_toArray, List.length_append, List.length_take, List.length_drop, Array.length_toList, size_zeroCells, hzs, hcs]; omega
  · rw [List.append_assoc, List.take_append_of_le_length (by rw [List.length_take, Array.length_toList, hcs]; omega), List.take_take, Nat.min_self]
    exact htake

theorem wpList_append_shift {P : Program} {w : World} {ops : Array Oper} {rest : List Oper} {o : Oper} {a : Act} {Q : Exit → Act → World → Prop} (hgd : o.guard = none) (s x : Operand) (t : TypeId)
    (ho : o.op = .call { callee := .builtin .append, args := #[s, x], argTypes := #[t, t] })
    {e : TypeId} {size bytes : Nat} (T : ElT P t e size bytes) {g n cap : Nat} {xs : List Value} (hown : w.ownsRow 0 e size (.slice (some ⟨g, 0, none⟩) n cap) n xs)
    (h1 : ∀ u ∈ xs, u.oneCell' = true) (i : Nat) (hi : i < n) (ad : Addr) (ha : i + 1 < n → ad = ⟨g, (i + 1) * size, none⟩) (m c : Nat) (hm : m = n - (i + 1))
    (hs : a.eval s = .slice (some ⟨g, 0, none⟩) i cap) (hx : a.eval x = .slice (some ad) m c)
    (h : ∀ w', w'.ownsRow 0 e size (.slice (some ⟨g, 0, none⟩) (n - 1) cap) (n - 1) (xs.take (i * size) ++ xs.drop ((i + 1) * size)) → Chg (fun k => k = g) w w' →
      wpList P ops Q rest (a.put o.dst (.slice (some ⟨g, 0, none⟩) (n - 1) cap)) w') : wpList P ops Q (o :: rest) a w :=
  wpList_plain hgd fun _ hK => by
    obtain ⟨w', hr, h2, h3⟩ := run_append_shift T hown h1 i hi ad ha m c hm o.type
    unfold Oper.wp execOp
    simp only [ho, resolve, invoke, builtin, Sem.run_bind, Sem.run_pure, Result.andThen_ok, List.map_toArray, List.map_cons, List.map_nil, hs, hx, hr]
    exact hK _ _ (h w' h2 h3)

theorem owns_drew {w : World} {base : Nat} {e : TypeId} {size : Nat} {v : Value} {n : Nat} {xs : List Value} (h : w.ownsRow base e size v n xs) : w.drew.ownsRow base e size v n xs := h

/-- The same at a step of a region that draws its order. -/
theorem step_append_new {P : Program} {w : World} {ops : Array Oper} {o : Oper} {a : Act} {K : Act → World → Prop} {Q : Exit → Act → World → Prop} {E : Prop} (hgd : o.guard = none) (s x : Operand) (t : TypeId)
    (ho : o.op = .call { callee := .builtin .append, args := #[s, x], argTypes := #[t, t] })
    {e : TypeId} {size bytes : Nat} (T : ElT P t e size bytes)
    {v : Value} {n : Nat} {xs : List Value} (hown : w.ownsRow 0 e size v n xs) (hs : a.eval s = v)
    (arr : Array Value) (m c : Nat) (hx : a.eval x = .slice (some ⟨w.heap.size, 0, none⟩) m c) (hl : arr.toList.length = m * size) (h1 : arr.toList.all Value.oneCell' = true)
    (h63 : n + m ≤ maxLen) (hbytes : (n + m) * bytes ≤ 140737488355328) (hm : m ≠ 0)
    (h : ∀ g cap w', w'.ownsRow 0 e size (.slice (some ⟨g, 0, none⟩) (n + m) cap) (n + m) (xs ++ arr.toList) → Chg (fun k => v.ownBlock = some k) w w' → (v.ownBlock = some g ∨ w.heap.size ≤ g) →
      K (a.put o.dst (.slice (some ⟨g, 0, none⟩) (n + m) cap)) w') : if Region.wanted o (yielded ops a.tmps) = true then Oper.wp P o a (w.alloc (.cells arr e)).drew K Q else E := by
  rw [if_pos (by simp [Region.wanted, hgd])]
  obtain ⟨i, z, hi, hz, h2, h3, h4, _⟩ := T.info
  obtain ⟨v', w', hr, r2, r3, r4, r5⟩ := run_append_chg (P := P) (w.alloc (.cells arr e)).drew t o.type e i z size bytes T.ht hi hz h2 h3 h4 T.pos v n xs (hown.alloc _) _ m c arr.toList hl (cells_new w arr e) (fun u hu => List.all_eq_true.1 h1 u hu) h63 hbytes
  obtain ⟨g, cap, rfl⟩ := r5 hm
  unfold Oper.wp execOp
  simp only [ho, resolve, invoke, builtin, Sem.run_bind, Sem.run_pure, Result.andThen_ok, List.map_toArray, List.map_cons, List.map_nil, hs, hx, hr]
  exact h g cap w' r2 ((((Chg.refl _ w).alloc _).drew).trans r3 (fun _ _ h => h)) ((r4 g rfl).imp id (fun h => by simp at h; omega))

/-- '[]byte(s)': a new row. -/
theorem conv_bytes {P : Program} (src dst e : TypeId) (hs : P.underlying src = some .string) (hd : P.underlying dst = some (.slice e)) (he : P.underlying e = some (.int .u8)) (w : World) (s : ByteArray) :
    ∃ w1 cap, (convert src dst (.string s)).run P w = .ok (.slice (some ⟨w.heap.size, 0, none⟩) s.size cap) w1 ∧ (∀ j (h : j < s.size), w1.cell? ⟨w.heap.size, j, none⟩ = some (.int .u8 s[j].toNat)) ∧
      (∀ j, j < s.size → w1.frozen? ⟨w.heap.size, j, none⟩ = false) ∧ Chg (fun _ => False) w w1 ∧ w1.heap.size = w.heap.size + 1 ∧ s.size ≤ cap := by
  refine ⟨_, _, Lib.run_convert_string_bytes w src dst e s hs hd he, ?_, ?_, ⟨rfl, rfl, rfl, by rw [Lib.bytesWorld_size]; omega, fun k hk _ => Lib.bytesWorld_at_old w e s k hk⟩, Lib.bytesWorld_size w e s, grownCap_ge _ _ _ _⟩
  · intro j hj
    rw [Lib.bytesWorld_cell w e s j hj]
    congr 3
    simp [List.getD_eq_getElem?_getD, hj]
    rfl
  · intro j hj
    have h1 := Lib.bytesWorld_at_new w e s
    have h2 : s.size ≤ (Lib.bytesCells w e s).size := by simp [Lib.bytesCells]
    simp [World.frozen?, h1]
    omega

/-- v is a slice of the strings ss (read only). -/
def StrsAt (w : World) (v : Value) (ss : List ByteArray) : Prop :=
  ((v = .slice none 0 0 ∧ ss = []) ∨ ∃ (a : Addr) (cap : Nat), v = .slice (some a) ss.length cap ∧ ∀ i (h : i < ss.length), w.cell? (a.add i) = some (.string ss[i])) ∧ ss.length ≤ maxLen ∧ ∀ s ∈ ss, s.size ≤ maxLen
theorem StrsAt.len {P : Program} {w0 : World} {v : Value} {ss : List ByteArray} (h : StrsAt w0 v ss) {t e : TypeId} (ht : P.underlying t = some (.slice e)) (w : World) (ty : TypeId) :
    (Builtin.len_ #[t] ty #[v]).run P w = .ok (.int .i64 ss.length) w := by
  rcases h.1 with ⟨rfl, rfl⟩ | ⟨a, cap, rfl, _⟩ <;> (simp [Builtin.len_, run_underlying ht]; rfl)
theorem StrsAt.ix {P : Program} {w0 : World} {v : Value} {ss : List ByteArray} (h : StrsAt w0 v ss) {t e : TypeId} (ht : P.underlying t = some (.slice e)) (hs : ∀ w, (sizeOf e).run P w = .ok 1 w) (k : Nat) (hk : k < ss.length) :
    ∃ a : Addr, (∀ w, (Instr.indexAt t v (.int .i64 k)).run P w = .ok (.pointer (some a)) w) ∧ w0.cell? a = some (.string ss[k]) ∧ a.block < w0.heap.size := by
  rcases h.1 with ⟨_, rfl⟩ | ⟨a, cap, rfl, hc⟩
  · simp at hk
  · refine ⟨a.add k, fun w => ?_, hc k hk, World.block_lt_of_cell? w0 _ (hc k hk)⟩
    have hb : (0 : Int) ≤ (k : Int) ∧ (k : Int) < (ss.length : Int) := ⟨by omega, by omega⟩
    simp [Instr.indexAt, run_underlying ht, asIntOf, hb.1, hs, hk]
theorem StrsAt.chg {F : Nat → Prop} {w w' : World} {v : Value} {ss : List ByteArray} (h : StrsAt w v ss) (hc : Chg F w w') (hF : ∀ k, k < w.heap.size → ¬ F k) : StrsAt w' v ss := by
  refine ⟨?_, h.2⟩
  rcases h.1 with h1 | ⟨a, cap, hv, h1⟩
  · exact .inl h1
  · exact .inr ⟨a, cap, hv, fun i hi => hc.cell (h1 i hi) (hF _ (World.block_lt_of_cell? w (a.add i) (h1 i hi)))⟩
end Go.Proofs.YtijiggolphppbaaGreatDoor
