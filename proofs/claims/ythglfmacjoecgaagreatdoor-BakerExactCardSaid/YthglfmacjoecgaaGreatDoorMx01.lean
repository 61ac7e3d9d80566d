/- Texts of the proof, one behind the other: A frame for worlds: which blocks may have changed; small laws on blocks; Opening a law's arguments; the frame of a law's proof; Numbers, texts and rows as bytes, in plain words: a row tells its texts. No program in sight; A slice of structs that came in: its cells, its elements; Builds as texts, in plain words: names, words of codes, lines, texts, reading and writing. No program in sight; Builds as texts, in plain words: names, codes, actions, reading and writing, and that they belong together. No program in sight; A build that came in, or was made: its cells, read only; stamp.turned walked: a word turned right by several numbers, joined; A variable of an array type: made, and set to its zero, without its cells written out; stamp.schedule walked: the words of a block's rounds; (*stamp.state).mix walked: the state behind a block. -/
import Derived.WalkKit
import Derived.WalkSpells
import Derived.WalkLawsBesides
import Derived.Lib.ConvBytes
import Derived.Test.YthglfmacjoecgaaGreatDoorRows
import Derived.ProofKit
import Derived.OpenShut
import Derived.SliceStrings
import Derived.KernelRfl
import Derived.Deep.Slices
import Derived.Deep.Fields
import Derived.Lib.SplitLaws
import Derived.Lib.Split
import Derived.Lib.Join
import Derived.Lib.CutLaws
import Derived.Test.YthglfmacjoecgaaGreatDoorShelf
import Derived.Deep.MidRow
import Derived.Deep.RegionHeld3
import Derived.BigQuiet
import Derived.Lib.LaidTab
namespace Go.Proofs.YthglfmacjoecgaaGreatDoor
open Go.RowKit

theorem hid {p : Prop} (h : p) : Hid p := h

/-- The call returns v, and the world behind it is such. -/
def Rets (v : Value) (Q : World → Prop) : Ending → World → Prop := fun e w' => e = .returned v ∧ Q w'

/-- Blocks that were there and are not in F are as they were; no block has gone. -/
structure Chg (F : Nat → Prop) (w w' : World) : Prop where
  os : w'.os = w.os
  tape : w'.tape = w.tape
  output : w'.output = w.output
  size : w.heap.size ≤ w'.heap.size
  block : ∀ k, k < w.heap.size → ¬ F k → w'.heap[k]? = w.heap[k]?

theorem Chg.refl (F : Nat → Prop) (w : World) : Chg F w w := ⟨rfl, rfl, rfl, Nat.le_refl _, fun _ _ _ => rfl⟩
/-- The second step may also change what the first one has made. -/
theorem Chg.trans {F G : Nat → Prop} {a b c : World} (h : Chg F a b) (k : Chg G b c) (hG : ∀ i, i < a.heap.size → G i → F i) : Chg F a c :=
  ⟨k.os.trans h.os, k.tape.trans h.tape, k.output.trans h.output, Nat.le_trans h.size k.size,
    fun i hi hn => (k.block i (Nat.lt_of_lt_of_le hi h.size) (fun g => hn (hG i hi g))).trans (h.block i hi hn)⟩
theorem Chg.mono {F G : Nat → Prop} {a b : World} (h : Chg F a b) (hG : ∀ i, i < a.heap.size → F i → G i) : Chg G a b :=
  ⟨h.os, h.tape, h.output, h.size, fun i hi hn => h.block i hi (fun f => hn (hG i hi f))⟩
theorem Chg.drew {F : Nat → Prop} {a w : World} (h : Chg F a w) : Chg F a w.drew := ⟨h.os, h.tape, h.output, h.size, h.block⟩
theorem Chg.drewN {F : Nat → Prop} {a w : World} (h : Chg F a w) (n : Nat) : Chg F a (w.drewN n) := ⟨h.os, h.tape, h.output, h.size, h.block⟩
theorem Chg.alloc {F : Nat → Prop} {a w : World} (h : Chg F a w) (o : Obj) : Chg F a (w.alloc o) :=
  h.trans ⟨rfl, rfl, rfl, by simp, fun k hk _ => Below.heap_alloc _ _ _ hk⟩ (G := fun _ => False) (fun _ _ f => f.elim)
theorem Chg.setCell {F : Nat → Prop} {a w : World} (h : Chg F a w) {p : Addr} (hp : p.block < a.heap.size → F p.block) (u : Value) : Chg F a (w.setCell p u) :=
  h.trans ⟨rfl, rfl, rfl, by simp [World.setCell], fun k _ hn => Below.heap_setCell _ _ _ _ hn⟩ (G := fun i => i = p.block) (fun i hi e => by subst e; exact hp hi)
theorem Chg.grown {F : Nat → Prop} {a w w' : World} {row : Option Nat} (h : Chg F a w) (hg : w.grownBy w' row) (hr : ∀ k, row = some k → k < a.heap.size → F k) : Chg F a w' :=
  h.trans ⟨hg.os, hg.tape, hg.output, hg.size, fun k hk hn => hg.block k hk (fun e => hn e.symm)⟩ (G := fun i => row = some i) (fun i hi e => hr i e hi)
theorem Chg.setRow {F : Nat → Prop} {a w : World} (h : Chg F a w) {g : Nat} (hp : g < a.heap.size → F g) (cs : Array Value) : Chg F a (w.setRow g cs) :=
  h.trans ⟨rfl, rfl, rfl, by simp [World.setRow], fun k _ hn => by simp [World.setRow, Array.getElem?_modify]; intro e; exact absurd e.symm hn⟩ (G := fun i => i = g) (fun i hi e => by subst e; exact hp hi)
/-- All that was there is as it was. -/
theorem Chg.below {F : Nat → Prop} {B : Nat} {w w' : World} (h : Chg F w w') (hB : B ≤ w.heap.size) (hF : ∀ k, k < B → ¬ F k) : Below B w w' :=
  ⟨h.os, h.tape, h.output, h.size, fun k hk => h.block k (Nat.lt_of_lt_of_le hk hB) (hF k hk)⟩
theorem Chg.of_below {B : Nat} {w w' : World} (h : Below B w w') : Chg (fun k => B ≤ k) w w' :=
  ⟨h.os, h.tape, h.output, h.size, fun k _ hn => h.block k (by omega)⟩
theorem Chg.obj {F : Nat → Prop} {w w' : World} (h : Chg F w w') {k : Nat} {o : Obj} (ho : w.heap[k]? = some o) (hn : ¬ F k) : w'.heap[k]? = some o := by
  have hk : k < w.heap.size := (Array.getElem?_eq_some_iff.1 ho).1
  rw [h.block k hk hn]; exact ho
theorem Chg.cell {F : Nat → Prop} {w w' : World} (h : Chg F w w') {p : Addr} {v : Value} (hc : w.cell? p = some v) (hn : ¬ F p.block) : w'.cell? p = some v :=
  (World.cell?_of_block (h.block p.block (World.block_lt_of_cell? w p hc) hn)).trans hc
theorem Chg.owns {F : Nat → Prop} {w w' : World} (h : Chg F w w') {base : Nat} {e : TypeId} {size : Nat} {v : Value} {n : Nat} {xs : List Value}
    (ho : w.ownsRow base e size v n xs) (hn : ∀ k, v.ownBlock = some k → ¬ F k) : w'.ownsRow base e size v n xs := by
  refine ⟨ho.1, ?_⟩
  rcases ho.2 with hn' | ⟨g, cap, cur, rfl, hb, hgg, rest⟩
  · exact .inl hn'
  · exact .inr ⟨g, cap, cur, rfl, hb, h.obj hgg (hn g rfl), rest⟩

theorem heap_lt {w : World} {b : Nat} {o : Obj} (h : w.heap[b]? = some o) : b < w.heap.size := (Array.getElem?_eq_some_iff.1 h).1
theorem heap_alloc_new' (w : World) (o : Obj) : (w.alloc o).heap[w.heap.size]? = some o := heap_alloc_new w o
theorem heap_alloc_old' {w : World} {b : Nat} {o : Obj} (h : w.heap[b]? = some o) (x : Obj) : (w.alloc x).heap[b]? = some o := by
  rw [Below.heap_alloc _ _ _ (heap_lt h)]; exact h
theorem heap_set_same {w : World} {b : Nat} {c : Array Value} {t : TypeId} {fz : Nat × Nat} (h : w.heap[b]? = some (.cells c t fz)) (i : Nat) (u : Value) :
    (w.setCell ⟨b, i, none⟩ u).heap[b]? = some (.cells (c.setIfInBounds i u) t fz) := by
  simp [World.setCell, Array.getElem?_modify, h]
theorem heap_set_other {w : World} {b : Nat} {o : Obj} (h : w.heap[b]? = some o) {a : Addr} (hne : b ≠ a.block) (u : Value) : (w.setCell a u).heap[b]? = some o := by
  rw [Below.heap_setCell _ _ _ _ hne]; exact h
theorem cell_of {w : World} {b : Nat} {c : Array Value} {t : TypeId} {fz : Nat × Nat} (h : w.heap[b]? = some (.cells c t fz)) (i : Nat) : w.cell? ⟨b, i, none⟩ = c[i]? := by
  simp [World.cell?, h]
theorem frozen_of {w : World} {b : Nat} {c : Array Value} {t : TypeId} (h : w.heap[b]? = some (.cells c t (0, 0))) (i : Nat) : w.frozen? ⟨b, i, none⟩ = false := by
  simp [World.frozen?, h]

theorem run_append_chg {P : Program} (w : World) (t ty e : TypeId) (i : TypeInfo) (z : Value) (size bytes : Nat) (ht : P.underlying t = some (.slice e)) (hi : P.info? e = some i) (hz : i.zero = some z)
    (hsize : i.size = size) (hby : i.bytes = bytes) (hzs : z.cells.size = size) (hsz : 0 < size)
    (v : Value) (n : Nat) (xs : List Value) (hown : w.ownsRow 0 e size v n xs)
    (a : Addr) (m c : Nat) (news : List Value) (hl : news.length = m * size) (hnews : ∀ j u, news[j]? = some u → w.cell? (a.add j) = some u) (h1 : ∀ u ∈ news, u.oneCell' = true)
    (h63 : n + m ≤ maxLen) (hbytes : (n + m) * bytes ≤ 140737488355328) :
    ∃ v' w', (Builtin.append_ #[t, t] ty #[v, .slice (some a) m c]).run P w = .ok v' w' ∧ w'.ownsRow 0 e size v' (n + m) (xs ++ news) ∧ Chg (fun k => v.ownBlock = some k) w w' ∧
      (∀ k, v'.ownBlock = some k → v.ownBlock = some k ∨ w.heap.size ≤ k) ∧ (m ≠ 0 → ∃ g cap, v' = .slice (some ⟨g, 0, none⟩) (n + m) cap) := by
  obtain ⟨v', w', hr, ho, hg, _⟩ := run_append_own w 0 t ty e i z size bytes ht hi hz hsize hby hzs hsz v n xs hown a m c news hl hnews h1 h63 hbytes (Nat.zero_le _)
  have hsmall : n + m ≤ 9223372036854775807 := by simp only [maxLen] at h63; omega
  refine ⟨v', w', hr, ho, (Chg.refl _ w).grown hg (fun k hk _ => hk), ?_, ?_⟩
  · intro k hk
    subst hsize hby
    rcases hown.2 with ⟨rfl, rfl⟩ | ⟨g, cap, cur, rfl, hbg, hgg, hnc, hcm, hcs, htake⟩
    · by_cases hm : m = 0
      · subst hm
        rcases ho.2 with ⟨rfl, _⟩ | ⟨g, cap, cur, rfl, _⟩
        · cases hk
        · exfalso
          simp [Builtin.append_, run_underlying ht, sizeOf, typeInfo, hi, Builtin.lenOf, Builtin.firstCells, loadCells, loadCellsFrom] at hr
      · have hr2 := run_append_nil (P := P) w t ty e i z ht hi hz a m c news hl hnews (by omega) (by omega) (by have hb := hbytes; simp only [Nat.zero_add] at hb; omega)
        rw [hr] at hr2
        injection hr2 with e1 e2
        subst e1
        simp [Value.ownBlock] at hk
        exact .inr (by omega)
    · by_cases hroom : n + m ≤ cap
      · obtain ⟨w2, hr2, _⟩ := run_append_fits (P := P) w 0 t ty e i i.size ht hi rfl g n cap xs hown a m c news hl hnews h1 hroom
        rw [hr] at hr2
        injection hr2 with e1 e2
        subst e1
        exact .inl hk
      · have hr2 := run_append_grow (P := P) w t ty e i z ht hi hz ⟨g, 0, none⟩ n cap xs hown.1 (hown.cells (g := g) rfl) a m c news hl hnews (by omega) (by omega) (growslice_fits (by omega) hbytes)
        rw [hr] at hr2
        injection hr2 with e1 e2
        subst e1
        simp [Value.ownBlock] at hk
        exact .inr (by omega)
  · intro hm
    rcases ho.2 with ⟨_, h0⟩ | ⟨g, cap, cur, rfl, _⟩
    · omega
    · exact ⟨g, cap, rfl⟩

/-- 'append(s, x)' at a row of the call's own: where the result lies, and what has changed. -/
theorem wpList_append_chg {P : Program} {w : World} {ops : Array Oper} {rest : List Oper} {o : Oper} {a : Act} {Q : Exit → Act → World → Prop} (hgd : o.guard = none) (s x : Operand) (t : TypeId)
    (ho : o.op = .call { callee := .builtin .append, args := #[s, x], argTypes := #[t, t] })
    (e : TypeId) (i : TypeInfo) (z : Value) (size bytes : Nat) (ht : P.underlying t = some (.slice e)) (hi : P.info? e = some i) (hz : i.zero = some z)
    (hsize : i.size = size) (hby : i.bytes = bytes) (hzs : z.cells.size = size) (hsz : 0 < size)
    (v : Value) (n : Nat) (xs : List Value) (hs : a.eval s = v) (hown : w.ownsRow 0 e size v n xs)
    (ad : Addr) (m c : Nat) (news : List Value) (hx : a.eval x = .slice (some ad) m c) (hl : news.length = m * size) (hnews : ∀ j u, news[j]? = some u → w.cell? (ad.add j) = some u) (h1 : ∀ u ∈ news, u.oneCell' = true)
    (h63 : n + m ≤ maxLen) (hbytes : (n + m) * bytes ≤ 140737488355328) (hm : m ≠ 0)
    (h : ∀ g cap w', w'.ownsRow 0 e size (.slice (some ⟨g, 0, none⟩) (n + m) cap) (n + m) (xs ++ news) → Chg (fun k => v.ownBlock = some k) w w' → (v.ownBlock = some g ∨ w.heap.size ≤ g) →
      wpList P ops Q rest (a.put o.dst (.slice (some ⟨g, 0, none⟩) (n + m) cap)) w') : wpList P ops Q (o :: rest) a w :=
  wpList_plain hgd fun _ hK => by
    obtain ⟨v', w', hr, h2, h3, h4, h5⟩ := run_append_chg (P := P) w t o.type e i z size bytes ht hi hz hsize hby hzs hsz v n xs hown ad m c news hl hnews h1 h63 hbytes
    obtain ⟨g, cap, rfl⟩ := h5 hm
    unfold Oper.wp execOp
    simp only [ho, resolve, invoke, builtin, Sem.run_bind, Sem.run_pure, Result.andThen_ok, List.map_toArray, List.map_cons, List.map_nil, hs, hx, hr]
    exact hK _ _ (h g cap w' h2 h3 (h4 g rfl))

theorem run_len_own {P : Program} {w0 : World} {t e : TypeId} (ht : P.underlying t = some (.slice e)) {base size : Nat} {v : Value} {n : Nat} {xs : List Value} (h : w0.ownsRow base e size v n xs) (w : World) (ty : TypeId) :
    (Builtin.len_ #[t] ty #[v]).run P w = .ok (.int .i64 n) w := by
  rcases h.2 with ⟨rfl, rfl⟩ | ⟨g, cap, cur, rfl, _⟩ <;> (simp [Builtin.len_, run_underlying ht]; rfl)

/-- What a slice type's elements are: the element's type, its cells, its bytes. -/
structure ElT (P : Program) (t e : TypeId) (size bytes : Nat) : Prop where
  ht : P.underlying t = some (.slice e)
  info : ∃ i z, P.info? e = some i ∧ i.zero = some z ∧ i.size = size ∧ i.bytes = bytes ∧ z.cells.size = size ∧ z.cells.toList.all Value.oneCell' = true
  pos : 0 < size
theorem ElT.mk' {P : Program} {t e : TypeId} {size bytes : Nat} {z : Value} (ht : P.underlying t = some (.slice e))
    (h : (P.info? e).map (fun i => (i.zero, i.size, i.bytes)) = some (some z, size, bytes)) (hz : z.cells.size = size) (hp : 0 < size) (h1 : z.cells.toList.all Value.oneCell' = true) : ElT P t e size bytes := by
  obtain ⟨i, hi, h0, h3, h2⟩ := info_parts h
  exact ⟨ht, ⟨i, z, hi, h0, h3, h2, hz, h1⟩, hp⟩

theorem cells_new (w : World) (arr : Array Value) (T : TypeId) : ∀ j u, arr.toList[j]? = some u → (w.alloc (.cells arr T)).cell? ((⟨w.heap.size, 0, none⟩ : Addr).add j) = some u := by
  intro j u hj
  have hadd : (⟨w.heap.size, 0, none⟩ : Addr).add j = ⟨w.heap.size, j, none⟩ := by unfold Addr.add; split <;> simp_all
  rw [hadd, cell_of (heap_alloc_new w _)]
  simpa using hj

/-- 'append(s, x ..)', the new elements just laid by this very statement. -/
theorem wpList_append_new {P : Program} {w : World} {ops : Array Oper} {rest : List Oper} {o : Oper} {a : Act} {Q : Exit → Act → World → Prop} (hgd : o.guard = none) (s x : Operand) (t : TypeId)
    (ho : o.op = .call { callee := .builtin .append, args := #[s, x], argTypes := #[t, t] })
    {e : TypeId} {size bytes : Nat} (T : ElT P t e size bytes)
    {v : Value} {n : Nat} {xs : List Value} (hown : w.ownsRow 0 e size v n xs) (hs : a.eval s = v)
    (arr : Array Value) (m c : Nat) (hx : a.eval x = .slice (some ⟨w.heap.size, 0, none⟩) m c) (hl : arr.toList.length = m * size) (h1 : arr.toList.all Value.oneCell' = true)
    (h63 : n + m ≤ maxLen) (hbytes : (n + m) * bytes ≤ 140737488355328) (hm : m ≠ 0)
    (h : ∀ g cap w', w'.ownsRow 0 e size (.slice (some ⟨g, 0, none⟩) (n + m) cap) (n + m) (xs ++ arr.toList) → Chg (fun k => v.ownBlock = some k) w w' → (v.ownBlock = some g ∨ w.heap.size ≤ g) →
      wpList P ops Q rest (a.put o.dst (.slice (some ⟨g, 0, none⟩) (n + m) cap)) w') : wpList P ops Q (o :: rest) a (w.alloc (.cells arr e)) := by
  obtain ⟨i, z, hi, hz, h2, h3, h4, _⟩ := T.info
  refine wpList_append_chg hgd s x t ho e i z size bytes T.ht hi hz h2 h3 h4 T.pos v n xs hs (hown.alloc _) _ m c arr.toList hx hl (cells_new w arr e) (fun u hu => List.all_eq_true.1 h1 u hu) h63 hbytes hm ?_
  intro g cap w' h5 h6 h7
  refine h g cap w' h5 (((Chg.refl _ w).alloc _).trans h6 (fun _ _ h => h)) (h7.imp id (fun h => by simp at h; omega))

theorem owns_some {w : World} {base : Nat} {e : TypeId} {size : Nat} {v : Value} {n : Nat} {xs : List Value} (h : w.ownsRow base e size v n xs) (hn : 0 < n) :
    ∃ g cap, v = .slice (some ⟨g, 0, none⟩) n cap ∧ n ≤ cap ∧ g < w.heap.size := by
  rcases h.2 with ⟨rfl, rfl⟩ | ⟨g, cap, cur, rfl, _, hg, hc, _⟩
  · omega
  · exact ⟨g, cap, rfl, hc, heap_lt hg⟩

theorem ownsRow_heap {w : World} {e : TypeId} {size g n cap : Nat} {xs : List Value} (h : w.ownsRow 0 e size (.slice (some ⟨g, 0, none⟩) n cap) n xs) :
    ∃ cur, w.heap[g]? = some (.cells cur e (0, 0)) ∧ n ≤ cap ∧ cap ≤ maxLen ∧ cur.size = cap * size ∧ cur.toList.take (n * size) = xs := by
  rcases h.2 with ⟨h', _⟩ | ⟨g', cap', cur, h', _, hg, r⟩
  · cases h'
  · simp only [Value.slice.injEq, Option.some.injEq, Addr.mk.injEq, and_true, true_and] at h'
    obtain ⟨rfl, rfl⟩ := h'
    exact ⟨cur, hg, r⟩

theorem owns_drew {w : World} {base : Nat} {e : TypeId} {size : Nat} {v : Value} {n : Nat} {xs : List Value} (h : w.ownsRow base e size v n xs) : w.drew.ownsRow base e size v n xs := h

/-- The same at a step of a region that draws its order. -/
theorem step_append_new {P : Program} {w : World} {ops : Array Oper} {o : Oper} {a : Act} {K : Act → World → Prop} {Q : Exit → Act → World → Prop} {E : Prop} (hgd : o.guard = none) (s x : Operand) (t : TypeId)
    (ho : o.op = .call { callee := .builtin .append, args := #[s, x], argTypes := #[t, t] })
    {e : TypeId} {size bytes : Nat} (T : ElT P t e size bytes)
    {v : Value} {n : Nat} {xs : List Value} (hown : w.ownsRow 0 e size v n xs) (hs : a.eval s = v)
    (arr : Array Value) (m c : Nat) (hx : a.eval x = .slice (some ⟨w.heap.size, 0, none⟩) m c) (hl : arr.toList.length = m * size) (h1 : arr.toList.all Value.oneCell' = true)
    (h63 : n + m ≤ maxLen) (hbytes : (n + m) * bytes ≤ 140737488355328) (hm : m ≠ 0)
    (h : ∀ g cap w', w'.ownsRow 0 e size (.slice (some ⟨g, 0, none⟩) (n + m) cap) (n + m) (xs ++ arr.toList) → Chg (fun k => v.ownBlock = some k) w w' → (v.ownBlock = some g ∨ w.heap.size ≤ g) →
      K (a.put o.dst (.slice (some ⟨g, 0, none⟩) (n + m) cap)) w') : if Region.wanted o (yielded ops a.tmps) = true then Oper.wp P o a (w.alloc (.cells arr e)).drew K Q else E := by
  rw [if_pos (by simp [Region.wanted, hgd])]
  obtain ⟨i, z, hi, hz, h2, h3, h4, _⟩ := T.info
  obtain ⟨v', w', hr, r2, r3, r4, r5⟩ := run_append_chg (P := P) (w.alloc (.cells arr e)).drew t o.type e i z size bytes T.ht hi hz h2 h3 h4 T.pos v n xs (hown.alloc _) _ m c arr.toList hl (cells_new w arr e) (fun u hu => List.all_eq_true.1 h1 u hu) h63 hbytes
  obtain ⟨g, cap, rfl⟩ := r5 hm
  unfold Oper.wp execOp
  simp only [ho, resolve, invoke, builtin, Sem.run_bind, Sem.run_pure, Result.andThen_ok, List.map_toArray, List.map_cons, List.map_nil, hs, hx, hr]
  exact h g cap w' r2 ((((Chg.refl _ w).alloc _).drew).trans r3 (fun _ _ h => h)) ((r4 g rfl).imp id (fun h => by simp at h; omega))

/-- '[]byte(s)': a new row. -/
theorem conv_bytes {P : Program} (src dst e : TypeId) (hs : P.underlying src = some .string) (hd : P.underlying dst = some (.slice e)) (he : P.underlying e = some (.int .u8)) (w : World) (s : ByteArray) :
    ∃ w1 cap, (convert src dst (.string s)).run P w = .ok (.slice (some ⟨w.heap.size, 0, none⟩) s.size cap) w1 ∧ (∀ j (h : j < s.size), w1.cell? ⟨w.heap.size, j, none⟩ = some (.int .u8 s[j].toNat)) ∧
      (∀ j, j < s.size → w1.frozen? ⟨w.heap.size, j, none⟩ = false) ∧ Chg (fun _ => False) w w1 ∧ w1.heap.size = w.heap.size + 1 ∧ s.size ≤ cap := by
  refine ⟨_, _, Lib.run_convert_string_bytes w src dst e s hs hd he, ?_, ?_, ⟨rfl, rfl, rfl, by rw [Lib.bytesWorld_size]; omega, fun k hk _ => Lib.bytesWorld_at_old w e s k hk⟩, Lib.bytesWorld_size w e s, grownCap_ge _ _ _ _⟩
  · intro j hj
    rw [Lib.bytesWorld_cell w e s j hj]
    congr 3
    simp [List.getD_eq_getElem?_getD, hj]
    rfl
  · intro j hj
    have h1 := Lib.bytesWorld_at_new w e s
    have h2 : s.size ≤ (Lib.bytesCells w e s).size := by simp [Lib.bytesCells]
    simp [World.frozen?, h1]
    omega

/-- v is a slice of the strings ss (read only). -/
def StrsAt (w : World) (v : Value) (ss : List ByteArray) : Prop :=
  ((v = .slice none 0 0 ∧ ss = []) ∨ ∃ (a : Addr) (cap : Nat), v = .slice (some a) ss.length cap ∧ ∀ i (h : i < ss.length), w.cell? (a.add i) = some (.string ss[i])) ∧ ss.length ≤ maxLen ∧ ∀ s ∈ ss, s.size ≤ maxLen
theorem StrsAt.len {P : Program} {w0 : World} {v : Value} {ss : List ByteArray} (h : StrsAt w0 v ss) {t e : TypeId} (ht : P.underlying t = some (.slice e)) (w : World) (ty : TypeId) :
    (Builtin.len_ #[t] ty #[v]).run P w = .ok (.int .i64 ss.length) w := by
  rcases h.1 with ⟨rfl, rfl⟩ | ⟨a, cap, rfl, _⟩ <;> (simp [Builtin.len_, run_underlying ht]; rfl)
theorem StrsAt.ix {P : Program} {w0 : World} {v : Value} {ss : List ByteArray} (h : StrsAt w0 v ss) {t e : TypeId} (ht : P.underlying t = some (.slice e)) (hs : ∀ w, (sizeOf e).run P w = .ok 1 w) (k : Nat) (hk : k < ss.length) :
    ∃ a : Addr, (∀ w, (Instr.indexAt t v (.int .i64 k)).run P w = .ok (.pointer (some a)) w) ∧ w0.cell? a = some (.string ss[k]) ∧ a.block < w0.heap.size := by
  rcases h.1 with ⟨_, rfl⟩ | ⟨a, cap, rfl, hc⟩
  · simp at hk
  · refine ⟨a.add k, fun w => ?_, hc k hk, World.block_lt_of_cell? w0 _ (hc k hk)⟩
    have hb : (0 : Int) ≤ (k : Int) ∧ (k : Int) < (ss.length : Int) := ⟨by omega, by omega⟩
    simp [Instr.indexAt, run_underlying ht, asIntOf, hb.1, hs, hk]
theorem StrsAt.chg {F : Nat → Prop} {w w' : World} {v : Value} {ss : List ByteArray} (h : StrsAt w v ss) (hc : Chg F w w') (hF : ∀ k, k < w.heap.size → ¬ F k) : StrsAt w' v ss := by
  refine ⟨?_, h.2⟩
  rcases h.1 with h1 | ⟨a, cap, hv, h1⟩
  · exact .inl h1
  · exact .inr ⟨a, cap, hv, fun i hi => hc.cell (h1 i hi) (hF _ (World.block_lt_of_cell? w (a.add i) (h1 i hi)))⟩
end Go.Proofs.YthglfmacjoecgaaGreatDoor
namespace Go.Proofs.YthglfmacjoecgaaGreatDoor
open Go.ChangeShapes Go.WideShapes Go.ChangeAt Go.RowKit
open Go.ChangeMaps (open_string shut_string)

theorem Tryz.own : ownKnob Tryz.prog.godebug = none := by kernel_rfl
theorem Tryz.laidOut : laidOutB Tryz.prog = true := by kernel_rfl

end Go.Proofs.YthglfmacjoecgaaGreatDoor
namespace Go.Proofs.YthglfmacjoecgaaGreatDoor
open Go

/-- A number's digits of base 256, the highest first; at most f of them. -/
def beL : Nat → Nat → List UInt8
  | 0, _ => []
  | f + 1, n => if n = 0 then [] else beL f (n / 256) ++ [UInt8.ofNat (n % 256)]
theorem beL_len : ∀ (f n : Nat), (beL f n).length ≤ f
  | 0, _ => Nat.le_refl _
  | f + 1, n => by
    unfold beL
    split
    · simp
    · have := beL_len f (n / 256)
      simp; omega
/-- A number's bytes. -/
def magN (n : Int) : Nat := if n < 0 then (-1 - n).toNat else n.toNat
def numL (n : Int) : List UInt8 := UInt8.ofNat ((if n < 0 then 128 else 0) + (beL 8 (magN n)).length) :: beL 8 (magN n)
theorem numL_len (n : Int) : 1 ≤ (numL n).length ∧ (numL n).length ≤ 9 := by
  have := beL_len 8 (magN n)
  simp [numL]; omega
theorem magN_lt {n : Int} (h1 : -9223372036854775808 ≤ n) (h2 : n ≤ 9223372036854775807) : magN n < 256 ^ 8 := by
  unfold magN
  split <;> omega
/-- The k lowest digits. -/
def lowL : Nat → Nat → List UInt8
  | 0, _ => []
  | k + 1, n => lowL k (n / 256) ++ [UInt8.ofNat (n % 256)]
theorem lowL_len : ∀ (k n : Nat), (lowL k n).length = k
  | 0, _ => rfl
  | k + 1, n => by simp [lowL, lowL_len k]
theorem lowL_cons : ∀ (k n : Nat), lowL (k + 1) n = UInt8.ofNat (n / 256 ^ k % 256) :: lowL k n
  | 0, n => by simp [lowL]
  | k + 1, n => by
    show lowL (k + 1) (n / 256) ++ [UInt8.ofNat (n % 256)] = _
    rw [lowL_cons k (n / 256), Nat.div_div_eq_div_mul, show 256 * 256 ^ k = 256 ^ (k + 1) by rw [Nat.pow_succ, Nat.mul_comm]]
    rfl
theorem beL_low : ∀ (k f n : Nat), k ≤ f → n / 256 ^ k = 0 → (∀ j, j < k → n / 256 ^ j ≠ 0) → beL f n = lowL k n
  | 0, f, n, _, h, _ => by
    have : n = 0 := by simpa using h
    subst this
    cases f <;> rfl
  | k + 1, 0, n, hf, _, _ => by omega
  | k + 1, f + 1, n, hf, h, hj => by
    have h0 : n ≠ 0 := by simpa using hj 0 (by omega)
    unfold beL
    rw [if_neg h0]
    show _ = lowL k (n / 256) ++ [UInt8.ofNat (n % 256)]
    rw [beL_low k f (n / 256) (by omega) (by rw [Nat.div_div_eq_div_mul, show 256 * 256 ^ k = 256 ^ (k + 1) by rw [Nat.pow_succ, Nat.mul_comm]]; exact h) (fun j hjk => by
      rw [Nat.div_div_eq_div_mul, show 256 * 256 ^ j = 256 ^ (j + 1) by rw [Nat.pow_succ, Nat.mul_comm]]
      exact hj (j + 1) (by omega))]
/-- A text's bytes, and a row's. -/
def textN (t : List UInt8) : List UInt8 := numL (t.length : Int) ++ t
def rowN (ts : List (List UInt8)) : List UInt8 := numL (ts.length : Int) ++ ts.flatMap textN
theorem flatN_len (k : Nat) : ∀ ts : List (List UInt8), (∀ t ∈ ts, t.length ≤ k) → (ts.flatMap textN).length ≤ (k + 9) * ts.length
  | [], _ => by simp
  | t :: ts, h => by
    have h1 := flatN_len k ts (fun x hx => h x (by simp [hx]))
    have h2 := h t (by simp)
    have h3 := numL_len (t.length : Int)
    simp only [List.flatMap_cons, List.length_append, List.length_cons, textN, Nat.mul_add, Nat.mul_one]
    omega
theorem rowN_len (ts : List (List UInt8)) (k : Nat) (h : ∀ t ∈ ts, t.length ≤ k) : (rowN ts).length ≤ (k + 9) * ts.length + 9 := by
  have h1 := flatN_len k ts h
  have h2 := numL_len (ts.length : Int)
  simp only [rowN, List.length_append]
  omega
end Go.Proofs.YthglfmacjoecgaaGreatDoor
namespace Go.Proofs.YthglfmacjoecgaaGreatDoor
open Go.ChangeShapes Go.WideShapes Go.ChangeAt Go.RowKit

/-- v is a slice of n elements of sz cells each; element i's cells are C i (read only). -/
structure RowsAt (w : World) (v : Value) (sz n : Nat) (C : Nat → List Value) : Prop where
  form : (v = .slice none 0 0 ∧ n = 0) ∨ ∃ (a : Addr) (cap : Nat), v = .slice (some a) n cap ∧ ∀ i, i < n → ∀ j, j < sz → w.cell? (a.add (i * sz + j)) = (C i)[j]?
  le : n ≤ maxLen
  wide : ∀ i, i < n → (C i).length = sz
theorem RowsAt.len {P : Program} {w0 : World} {v : Value} {sz n : Nat} {C : Nat → List Value} (h : RowsAt w0 v sz n C) {t e : TypeId} (ht : P.underlying t = some (.slice e)) (w : World) (ty : TypeId) :
    (Builtin.len_ #[t] ty #[v]).run P w = .ok (.int .i64 n) w := by
  rcases h.form with ⟨rfl, rfl⟩ | ⟨a, cap, rfl, _⟩ <;> (simp [Builtin.len_, run_underlying ht]; rfl)
theorem RowsAt.ix {P : Program} {w0 : World} {v : Value} {sz n : Nat} {C : Nat → List Value} (h : RowsAt w0 v sz n C) {t e : TypeId} (ht : P.underlying t = some (.slice e)) (hs : ∀ w, (sizeOf e).run P w = .ok sz w) (hsz : 0 < sz) (k : Nat) (hk : k < n) :
    ∃ bb oo, (∀ w, (Instr.indexAt t v (.int .i64 k)).run P w = .ok (.pointer (some ⟨bb, oo, none⟩)) w) ∧ (∀ j, j < sz → w0.cell? ⟨bb, oo + j, none⟩ = (C k)[j]?) ∧ bb < w0.heap.size := by
  rcases h.form with ⟨_, rfl⟩ | ⟨a, cap, rfl, hc⟩
  · simp at hk
  · have h0 := hc k hk 0 hsz
    rw [Nat.add_zero, List.getElem?_eq_getElem (by rw [h.wide k hk]; exact hsz)] at h0
    have hsp := World.cell?_spot h0
    have hlt := World.block_lt_of_cell? w0 _ h0
    have he : ∃ oo, a.add (k * sz) = ⟨a.block, oo, none⟩ := by
      cases ha : a.add (k * sz) with
      | mk b o s =>
        rw [ha] at hsp
        simp only at hsp
        subst hsp
        have : b = a.block := by have := congrArg Addr.block ha; unfold Addr.add at this; split at this <;> simp_all
        exact ⟨o, by rw [this]⟩
    obtain ⟨oo, ho⟩ := he
    have hb : (0 : Int) ≤ (k : Int) ∧ (k : Int) < (n : Int) := ⟨by omega, by omega⟩
    refine ⟨a.block, oo, fun w => ?_, fun j hj => ?_, by rw [ho] at hlt; exact hlt⟩
    · simp [Instr.indexAt, run_underlying ht, asIntOf, hb.1, hs, hk, ho]
    · rw [← hc k hk j hj]
      congr 1
      have e1 : (a.add (k * sz)).add j = a.add (k * sz + j) := by
        unfold Addr.add
        by_cases hi : k * sz = 0 <;> by_cases hj : j = 0 <;> simp [hi, hj, Nat.add_assoc]
      rw [← e1, ho]
      unfold Addr.add
      split <;> simp_all

theorem RowsAt.chg {F : Nat → Prop} {w w' : World} {v : Value} {sz n : Nat} {C : Nat → List Value} (h : RowsAt w v sz n C) (hc : Chg F w w') (hF : ∀ k, k < w.heap.size → ¬ F k) : RowsAt w' v sz n C := by
  refine ⟨?_, h.le, h.wide⟩
  rcases h.form with h1 | ⟨a, cap, hv, h1⟩
  · exact .inl h1
  · refine .inr ⟨a, cap, hv, fun i hi j hj => ?_⟩
    have hw := h.wide i hi
    have h2 := h1 i hi j hj
    rw [List.getElem?_eq_getElem (by omega)] at h2 ⊢
    exact hc.cell h2 (hF _ (World.block_lt_of_cell? w _ h2))

end Go.Proofs.YthglfmacjoecgaaGreatDoor
namespace Go.Proofs.YthglfmacjoecgaaGreatDoor
open Go

/-- Words joined. -/
def joinC (c : UInt8) : List (List UInt8) → List UInt8
  | [] => []
  | [x] => x
  | x :: y :: r => x ++ c :: joinC c (y :: r)
theorem join_eq (c : UInt8) : ∀ ws : List (List UInt8), Lib.join ws [c] = joinC c ws
  | [] => rfl
  | [x] => Lib.join_one x [c]
  | x :: y :: r => by
    have ih := join_eq c (y :: r)
    unfold joinC
    rw [← ih]
    simp [Lib.join, List.intercalate, List.intersperse]
end Go.Proofs.YthglfmacjoecgaaGreatDoor
namespace Go.Proofs.YthglfmacjoecgaaGreatDoor
open Go

def letB (b : UInt8) : Bool := (decide (97 ≤ b.toNat) && decide (b.toNat ≤ 122)) || (decide (48 ≤ b.toNat) && decide (b.toNat ≤ 57))
def nameL (l : List UInt8) : Bool := decide (1 ≤ l.length) && decide (l.length ≤ 8) && l.all letB

def digitsL : List UInt8 := [48, 49, 50, 51, 52, 53, 54, 55, 56, 57, 97, 98, 99, 100, 101, 102]
def hexd (n : Nat) : UInt8 := digitsL.getD n 0
def wordL (c : List UInt8) : List UInt8 := if c = [] then [45] else c.flatMap fun b => [hexd (b.toNat / 16), hexd (b.toNat % 16)]
theorem flat_len (c : List UInt8) : (c.flatMap fun b => [hexd (b.toNat / 16), hexd (b.toNat % 16)]).length = 2 * c.length := by
  induction c with
  | nil => rfl
  | cons b r ih => rw [List.flatMap_cons, List.length_append, ih]; simp; omega
structure ActR where
  name : List UInt8
  ins : List (List UInt8)
  code : List UInt8
structure GrR where
  srcs : List (List UInt8)
  acts : List ActR

def wSource : List UInt8 := [115, 111, 117, 114, 99, 101]
def wMake : List UInt8 := [109, 97, 107, 101]
def wFrom : List UInt8 := [102, 114, 111, 109]
def wBy : List UInt8 := [98, 121]

def actOK (a : ActR) : Bool := nameL a.name && a.ins.all nameL && decide (a.ins.length ≤ 4) && decide (a.code.length ≤ 64)
def grOK (g : GrR) : Bool := decide (g.srcs.length ≤ 8) && decide (g.acts.length ≤ 12) && g.srcs.all nameL && g.acts.all actOK
def srcLine (s : List UInt8) : List UInt8 := joinC 32 [wSource, s] ++ [10]
def actWs (a : ActR) : List (List UInt8) := [wMake, a.name] ++ (if a.ins = [] then [] else wFrom :: a.ins) ++ [wBy, wordL a.code]
def actLine (a : ActR) : List UInt8 := joinC 32 (actWs a) ++ [10]
def textL (g : GrR) : List UInt8 := (g.srcs.map srcLine).flatten ++ (g.acts.map actLine).flatten
def printR (g : GrR) : Option (List UInt8) := if grOK g then some (textL g) else none

def noGr : GrR := ⟨[], []⟩
theorem nameL_let {l : List UInt8} (h : nameL l = true) : 1 ≤ l.length ∧ l.length ≤ 8 ∧ l.all letB = true := by
  unfold nameL at h
  simp only [Bool.and_eq_true, decide_eq_true_eq] at h
  exact ⟨h.1.1, h.1.2, h.2⟩
theorem wordL_len (c : List UInt8) (h : c.length ≤ 64) : (wordL c).length ≤ 128 := by
  unfold wordL
  split
  · decide
  · rw [flat_len]; omega

theorem actOK_iff (a : ActR) : actOK a = true ↔ nameL a.name = true ∧ (∀ s ∈ a.ins, nameL s = true) ∧ a.ins.length ≤ 4 ∧ a.code.length ≤ 64 := by
  unfold actOK
  simp only [Bool.and_eq_true, decide_eq_true_eq, List.all_eq_true]
  constructor
  · rintro ⟨⟨⟨h1, h2⟩, h3⟩, h4⟩; exact ⟨h1, h2, h3, h4⟩
  · rintro ⟨h1, h2, h3, h4⟩; exact ⟨⟨⟨h1, h2⟩, h3⟩, h4⟩
theorem grOK_iff (g : GrR) : grOK g = true ↔ g.srcs.length ≤ 8 ∧ g.acts.length ≤ 12 ∧ (∀ s ∈ g.srcs, nameL s = true) ∧ (∀ a ∈ g.acts, actOK a = true) := by
  unfold grOK
  simp only [Bool.and_eq_true, decide_eq_true_eq, List.all_eq_true]
  constructor
  · rintro ⟨⟨⟨h1, h2⟩, h3⟩, h4⟩; exact ⟨h1, h2, h3, h4⟩
  · rintro ⟨h1, h2, h3, h4⟩; exact ⟨⟨⟨h1, h2⟩, h3⟩, h4⟩

theorem joinC_len (c : UInt8) : ∀ ws : List (List UInt8), (joinC c ws).length ≤ (ws.map List.length).sum + ws.length
  | [] => by simp [joinC]
  | [x] => by simp [joinC]
  | x :: y :: r => by
    have ih := joinC_len c (y :: r)
    unfold joinC
    simp only [List.length_append, List.length_cons, List.map_cons, List.sum_cons] at ih ⊢
    omega
theorem sum_le (ss : List (List UInt8)) (k : Nat) (h : ∀ s ∈ ss, s.length ≤ k) : (ss.map List.length).sum ≤ k * ss.length := by
  induction ss with
  | nil => simp
  | cons s ss ih =>
    have := ih (fun x hx => h x (by simp [hx]))
    have h1 := h s (by simp)
    simp only [List.map_cons, List.sum_cons, List.length_cons, Nat.mul_add] at *
    omega
theorem srcLine_len (s : List UInt8) (h : nameL s = true) : (srcLine s).length ≤ 16 := by
  have := (nameL_let h).2.1
  simp [srcLine, joinC, wSource]; omega
theorem actLine_len (a : ActR) (h : actOK a = true) : (actLine a).length ≤ 200 := by
  obtain ⟨h1, h2, h3, h4⟩ := (actOK_iff a).1 h
  have hw := wordL_len a.code h4
  have hn := (nameL_let h1).2.1
  have hs := sum_le a.ins 8 (fun s hs => (nameL_let (h2 s hs)).2.1)
  have hj := joinC_len 32 (actWs a)
  unfold actLine
  simp only [List.length_append, List.length_cons, List.length_nil]
  have e : ((actWs a).map List.length).sum ≤ 4 + a.name.length + (4 + (a.ins.map List.length).sum) + 2 + (wordL a.code).length ∧ (actWs a).length ≤ 5 + a.ins.length := by
    unfold actWs
    split
    · simp [wMake, wBy]; omega
    · simp [wMake, wBy, wFrom]; omega
  omega
theorem flatten_len (ls : List (List UInt8)) (k : Nat) (h : ∀ l ∈ ls, l.length ≤ k) : ls.flatten.length ≤ k * ls.length := by
  rw [List.length_flatten]
  exact sum_le ls k h
end Go.Proofs.YthglfmacjoecgaaGreatDoor
namespace Go.Proofs.YthglfmacjoecgaaGreatDoor
open Go.ChangeShapes Go.WideShapes Go.ChangeAt Go.RowKit

def bs (l : List UInt8) : ByteArray := ⟨l.toArray⟩
theorem bs_list (s : ByteArray) : bs s.data.toList = s := by cases s; simp [bs]
theorem bs_data (l : List UInt8) : (bs l).data.toList = l := by simp [bs]
theorem bs_size (l : List UInt8) : (bs l).size = l.length := by simp [bs, ByteArray.size]
theorem bs_inj {a b : List UInt8} (h : bs a = bs b) : a = b := by rw [← bs_data a, h, bs_data]
theorem bs_append (a b : List UInt8) : bs (a ++ b) = bs a ++ bs b := by
  apply ByteArray.ext
  simp [bs]

theorem strs_of_cell {H : Type} {enc : TypeId × Value → H} {P : Program} {W : World} {b2 m : Nat} {t e : TypeId} {u : Value} {y : DataW H × List MemPlace} (ht : P.underlying t = some (.slice e)) (he : P.underlying e = some .string) (hc : P.cellsOf e = 1)
    (hf : DataW.trod enc P W b2 (fun _ => true) true m t [u] = some y) : ∃ ss, StrsAt W u ss := by
  rcases open_strings ht he hc hf with ⟨hcs, _⟩ | ⟨a, len', cap', ss, hcs, _, hl, hm, hz, _, hcell, hws⟩
  · simp only [List.cons.injEq, and_true] at hcs
    subst hcs
    exact ⟨[], .inl ⟨rfl, rfl⟩, Nat.zero_le _, by simp⟩
  · simp only [List.cons.injEq, and_true] at hcs
    subst hcs
    simp only [if_true] at hz
    have hlen : (ss.take len').length = len' := by simp; omega
    refine ⟨ss.take len', .inr ⟨a, cap', by rw [hlen], fun i hi => ?_⟩, by rw [hlen]; omega, fun s hs => hws s (List.mem_of_mem_take hs)⟩
    rw [hcell i (by omega)]
    congr 2
    simp only [List.getElem_take]
    rw [List.getD_eq_getElem?_getD, List.getElem?_eq_getElem (by omega)]
    rfl

/-- v is a slice of the names ss. -/
def NamesAt (w : World) (v : Value) (ss : List (List UInt8)) : Prop := StrsAt w v (ss.map bs)
theorem namesAt_of {w : World} {v : Value} {ss : List ByteArray} (h : StrsAt w v ss) : NamesAt w v (ss.map (·.data.toList)) := by
  have : (ss.map (·.data.toList)).map bs = ss := by
    rw [List.map_map]
    calc ss.map (bs ∘ (·.data.toList)) = ss.map id := List.map_congr_left (fun s _ => bs_list s)
      _ = ss := List.map_id ss
  unfold NamesAt
  rw [this]; exact h
theorem NamesAt.chg {F : Nat → Prop} {w w' : World} {v : Value} {ss : List (List UInt8)} (h : NamesAt w v ss) (hc : Chg F w w') (hF : ∀ k, k < w.heap.size → ¬ F k) : NamesAt w' v ss := StrsAt.chg h hc hF

def noAct : ActR := ⟨[], [], []⟩
/-- v is a slice of the actions xs. -/
structure ActsAt (w : World) (v : Value) (xs : List ActR) (iv : Nat → Value) : Prop where
  rows : RowsAt w v 3 xs.length (fun i => [.string (bs (xs.getD i noAct).name), iv i, .string (bs (xs.getD i noAct).code)])
  ins : ∀ i, i < xs.length → NamesAt w (iv i) (xs.getD i noAct).ins
  wide : ∀ a ∈ xs, a.name.length ≤ maxLen ∧ a.code.length ≤ maxLen
theorem ActsAt.chg {F : Nat → Prop} {w w' : World} {v : Value} {xs : List ActR} {iv : Nat → Value} (h : ActsAt w v xs iv) (hc : Chg F w w') (hF : ∀ k, k < w.heap.size → ¬ F k) : ActsAt w' v xs iv :=
  ⟨h.rows.chg hc hF, fun i hi => (h.ins i hi).chg hc hF, h.wide⟩
/-- v is the build g. -/
def GrAt (w : World) (v : Value) (g : GrR) : Prop := ∃ sv av iv, v = .agg #[sv, av] ∧ NamesAt w sv g.srcs ∧ ActsAt w av g.acts iv
theorem GrAt.chg {F : Nat → Prop} {w w' : World} {v : Value} {g : GrR} (h : GrAt w v g) (hc : Chg F w w') (hF : ∀ k, k < w.heap.size → ¬ F k) : GrAt w' v g := by
  obtain ⟨sv, av, iv, hv, h1, h2⟩ := h
  exact ⟨sv, av, iv, hv, h1.chg hc hF, h2.chg hc hF⟩

theorem rows_of_cell {H : Type} {enc : TypeId × Value → H} {P : Program} {W : World} {b2 m0 : Nat} {t e : TypeId} {fs : Array Field} {u : Value} {y : DataW H × List MemPlace} (ht : P.underlying t = some (.slice e)) (he : P.underlying e = some (.struct fs))
    (hone : Go.Deep.oneCellFields P fs = true) (hC : P.cellsOf e = fs.size) (hf : DataW.trod enc P W b2 (fun _ => true) true m0 t [u] = some y) :
    ∃ n C, RowsAt W u fs.size n C ∧ ∀ i, i < n → ∀ (j : Nat) (f : Field), fs[j]? = some f → ∃ (u : Value) (y : DataW H × List MemPlace) (m : Nat), (C i)[j]? = some u ∧ DataW.trod enc P W b2 (fun _ => true) true m f.type [u] = some y := by
  rcases Go.Deep.open_slice ht hf with ⟨hcs, _⟩ | ⟨a, len, cap, m, n, D, Pl, hcs, _, hl, hm, hmm, _, hi⟩
  · simp only [List.cons.injEq, and_true] at hcs
    subst hcs
    exact ⟨0, fun _ => [], ⟨.inl ⟨rfl, rfl⟩, Nat.zero_le _, fun i hi => by omega⟩, fun i hi => by omega⟩
  · simp only [List.cons.injEq, and_true] at hcs
    subst hcs
    simp only [if_true] at hmm
    have hch : ∀ i, ∃ cs : List Value, i < len → (cs.length = fs.size ∧ (∀ j, j < fs.size → W.cell? (a.add (i * fs.size + j)) = cs[j]?) ∧
        ∀ (j : Nat) (f : Field), fs[j]? = some f → ∃ (u : Value) (y : DataW H × List MemPlace) (m : Nat), cs[j]? = some u ∧ DataW.trod enc P W b2 (fun _ => true) true m f.type [u] = some y) := by
      intro i
      by_cases hil : i < len
      · obtain ⟨cs', hc, ht'⟩ := hi i (by omega)
        rw [hC] at hc
        obtain ⟨ys, n', _, _, hlen, hyl, hfs⟩ := DataW.trod_struct he ht'
        obtain ⟨_, hcl, hat⟩ := World.cells?_some hc
        refine ⟨cs', fun _ => ⟨hcl, fun j hj => ?_, fun j f hj => ?_⟩⟩
        · rw [← hat j hj, Go.Deep.add_add]
        · have hjl : j < fs.size := (Array.getElem?_eq_some_iff.1 hj).1
          obtain ⟨ho, hk⟩ := Go.Deep.hone_of hone j f hj
          have h1 := hfs j f hj
          have hjc : j < cs'.length := by omega
          rw [ho, hk, List.drop_eq_getElem_cons hjc, List.take_succ_cons, List.take_zero, List.getElem?_eq_getElem (by omega)] at h1
          exact ⟨_, _, _, List.getElem?_eq_getElem hjc, h1⟩
      · exact ⟨[], fun h => absurd h hil⟩
    refine ⟨len, fun i => Classical.choose (hch i), ⟨.inr ⟨a, cap, rfl, fun i hil j hj => ((Classical.choose_spec (hch i)) hil).2.1 j hj⟩, by omega, fun i hil => ((Classical.choose_spec (hch i)) hil).1⟩, fun i hil => ((Classical.choose_spec (hch i)) hil).2.2⟩

set_option maxRecDepth 100000 in
theorem acts_of {H : Type} {enc : TypeId × Value → H} {W : World} {b2 m : Nat} {u : Value} {y : DataW H × List MemPlace}
    (h : DataW.trod enc Tryz.prog W b2 (fun _ => true) true m 23 [u] = some y) : ∃ xs iv, ActsAt W u xs iv := by
  obtain ⟨n, C, hR, hC⟩ := rows_of_cell Tryz.underlying23 Tryz.underlying43 (by kernel_rfl) (by kernel_rfl) h
  have hch : ∀ i, ∃ x : ActR × Value, i < n → C i = [.string (bs x.1.name), x.2, .string (bs x.1.code)] ∧ NamesAt W x.2 x.1.ins ∧ x.1.name.length ≤ maxLen ∧ x.1.code.length ≤ maxLen := by
    intro i
    by_cases hi : i < n
    · have hw := hR.wide i hi
      have hf := hC i hi
      obtain ⟨u0, y0, m0, e0, r0⟩ := hf 0 _ rfl
      obtain ⟨u1, y1, m1, e1, r1⟩ := hf 1 _ rfl
      obtain ⟨u2, y2, m2, e2, r2⟩ := hf 2 _ rfl
      obtain ⟨ys, n', _, _, hlen, hyl, hfs⟩ := DataW.trod_struct Tryz.underlying41 r0
      have q0 := hfs 0 _ rfl
      have hq : ys[0]? = some (ys[0]'(by rw [hyl]; decide)) := List.getElem?_eq_getElem _
      rw [hq] at q0
      obtain ⟨k0, g0, _, w0⟩ := DataW.trod_string Tryz.underlying9 q0
      obtain ⟨ss, S⟩ := strs_of_cell Tryz.underlying22 Tryz.underlying9 (by kernel_rfl) r1
      obtain ⟨k2, g2, _, w2⟩ := DataW.trod_string Tryz.underlying9 r2
      have hct : Tryz.prog.cellsOf 9 = 1 := by kernel_rfl
      have g0' : ([u0].drop 0).take (Tryz.prog.cellsOf 9) = [.string k0] := g0
      rw [hct] at g0'
      simp only [List.drop_zero, List.take_succ_cons, List.take_zero, List.cons.injEq, and_true] at g0' g2
      subst g0' g2
      refine ⟨⟨⟨k0.data.toList, ss.map (·.data.toList), k2.data.toList⟩, u1⟩, fun _ => ⟨?_, namesAt_of S, by simpa using w0, by simpa using w2⟩⟩
      simp only [bs_list]
      generalize C i = L at *
      match L, hw with
      | [c0, c1, c2], _ =>
        simp at e0 e1 e2
        subst e0 e1 e2
        rfl
    · exact ⟨⟨noAct, .bool true⟩, fun h => absurd h hi⟩
  have hL : ((List.range n).map fun i => (Classical.choose (hch i)).1).length = n := by simp
  have hg : ∀ i, i < n → ((List.range n).map fun i => (Classical.choose (hch i)).1).getD i noAct = (Classical.choose (hch i)).1 := by
    intro i hi
    simp [hi]
  refine ⟨(List.range n).map fun i => (Classical.choose (hch i)).1, fun i => (Classical.choose (hch i)).2, ⟨?_, ?_, ?_⟩, ?_, ?_⟩
  · rw [hL]
    rcases hR.form with h | ⟨a, cap, hv, hc⟩
    · exact .inl h
    · refine .inr ⟨a, cap, hv, fun i hi j hj => ?_⟩
      rw [hg i hi, ← ((Classical.choose_spec (hch i)) hi).1]
      exact hc i hi j hj
  · rw [hL]; exact hR.le
  · intro i hi
    rfl
  · intro i hi
    rw [hL] at hi
    rw [hg i hi]
    exact ((Classical.choose_spec (hch i)) hi).2.1
  · intro x hx
    obtain ⟨i, hi, rfl⟩ := List.mem_map.1 hx
    exact ((Classical.choose_spec (hch i)) (List.mem_range.1 hi)).2.2
end Go.Proofs.YthglfmacjoecgaaGreatDoor
namespace Go.Proofs.YthglfmacjoecgaaGreatDoor
open Go.RowKit

theorem rot_mask : ∀ n : Fin 32, 1 ≤ n.1 → bits .and .u64 (IntKind.u64.wrap (-(n.1 : Int))) 31 = 32 - (n.1 : Int) := by decide +kernel

/-- A word turned right. -/
def rotr (x : Int) (n : Nat) : Int := bits .or .u32 (x * 2 ^ (32 - n) % 4294967296) (x / 2 ^ n)

set_option maxHeartbeats 1000000 in
theorem rotl_any (x : Int) (n : Nat) (h1 : 1 ≤ n) (h2 : n ≤ 31) (w : World) :
    Calls Tryz.prog 144 #[.int .u32 x, .int .i64 (-(n : Int))] w (Rets (.int .u32 (rotr x n)) (fun w' => w = w')) := by
  obtain ⟨m, hm⟩ : ∃ m : Nat, m = 32 - n := ⟨_, rfl⟩
  have hb : bits .and .u64 (IntKind.u64.wrap (-(n : Int))) 31 = (m : Int) := by
    have := rot_mask ⟨n, by omega⟩ h1
    rw [this]
    show 32 - (n : Int) = m
    omega
  have hsub : IntKind.u64.wrap (32 - (m : Int)) = (n : Int) := by
    rw [IntKind.wrap_u64]; omega
  have hr : rotr x n = bits .or .u32 (x * 2 ^ m % 4294967296) (x / 2 ^ n) := by rw [hm]; rfl
  have HR := hid hr
  clear hr
  have m1 : min m 32 = m := by omega
  have m2 : min n 32 = n := by omega
  clear hm
  go_enter Tryz.func144, Tryz.ntmps144
  go_wp2
  go_ret
  exact ⟨by rw [HR.out]; rfl, rfl⟩

/-- A word turned right by several numbers, joined. -/
def turnedR (x : Int) (ns : List Nat) : Int := ns.foldl (fun out n => bits .xor .u32 out (rotr x n)) 0
theorem turnedR_take (x : Int) (ns : List Nat) (k : Nat) (h : k < ns.length) : turnedR x (ns.take (k + 1)) = bits .xor .u32 (turnedR x (ns.take k)) (rotr x ns[k]) := by
  unfold turnedR
  rw [List.take_succ_eq_append_getElem h, List.foldl_append]
  rfl

set_option maxHeartbeats 1000000 in
theorem sturned_any (x : Int) (ns : List Nat) (hns : ∀ n ∈ ns, 1 ≤ n ∧ n ≤ 31) (g n c : Nat) (hn : n = ns.length) (hl : ns.length ≤ 100) (w : World) (hc : ∀ i (h : i < ns.length), w.cell? ⟨g, i, none⟩ = some (.int .i64 (ns[i] : Nat))) :
    Calls Tryz.prog 127 #[.int .u32 x, .slice (some ⟨g, 0, none⟩) n c] w (Rets (.int .u32 (turnedR x ns)) (fun w' => w = w')) := by
  subst hn
  have HC := hid hc
  have HN := hid hns
  clear hc hns
  go_enter Tryz.func127, Tryz.ntmps127
  go_wp2_with fail
  go_loop [4, 9] (fun o i => ∃ k : Nat, k ≤ ns.length ∧ i = .int .i64 k ∧ o = .int .u32 (turnedR x (ns.take k))) (fun _ i => ns.length - (intOf i).toNat)
  case atStart => exact ⟨0, Nat.zero_le _, rfl, rfl⟩
  case round =>
    obtain ⟨k, hk, rfl, rfl⟩ := hrel
    by_cases hkn : k < ns.length
    · have hkn' : (k : Int) < ns.length := by omega
      have hkc := HC.out k hkn
      obtain ⟨p1, p2⟩ := HN.out _ (List.getElem_mem hkn)
      have hneg : IntKind.i64.wrap (-((ns[k] : Nat) : Int)) = -((ns[k] : Nat) : Int) := IntWalk.i64_in _ (by omega)
      go_wp2_with (go_at_call 144; refine (rotl_any x ns[k] p1 p2 _).mono ?_; rintro e w' ⟨rfl, rfl⟩)
      go_round
      case rel => exact ⟨k + 1, by omega, by go_num, by rw [turnedR_take x ns k hkn]⟩
      case measure => simp [intOf]; omega
    · obtain rfl : k = ns.length := by omega
      go_wp2_with fail
      go_ret
      exact ⟨rfl, rfl⟩
end Go.Proofs.YthglfmacjoecgaaGreatDoor
namespace Go.Proofs.YthglfmacjoecgaaGreatDoor
open Go.RowKit
section
variable {P : Program} {w : World} {ops : Array Oper} {rest : List Oper} {o : Oper} {a : Act} {Q : Exit → Act → World → Prop}
theorem wpList_build0 (hg : o.guard = none) (t : TypeId) (hop : o.op = Op.build t #[]) (z : Value) (hr : (Instr.build t #[]).run P w = .ok z w)
    (h : wpList P ops Q rest (a.put o.dst z) w) : wpList P ops Q (o :: rest) a w := by
  refine wpList_plain hg fun K' hK' => ?_
  unfold Oper.wp
  simp only [execOp, hop, Sem.run_bind, List.map_toArray, List.map_nil, hr, Result.andThen, Sem.run_pure, Oper.upon]
  exact hK' _ _ h
theorem wpList_alloc0 (hg : o.guard = none) (t : TypeId) (hop : o.op = Op.alloc t) (zc : Array Value) (hr : (Instr.alloc t true (.tuple #[])).run P w = .ok (.pointer (some ⟨w.heap.size, 0, none⟩)) (w.alloc (.cells zc t)))
    (h : ∀ w', w'.heap[w.heap.size]? = some (.cells zc t (0, 0)) → w'.heap.size = w.heap.size + 1 → Chg (fun _ => False) w w' → wpList P ops Q rest (a.put o.dst (.pointer (some ⟨w.heap.size, 0, none⟩))) w') : wpList P ops Q (o :: rest) a w := by
  refine wpList_plain hg fun K' hK' => ?_
  unfold Oper.wp
  simp only [execOp, hop, Sem.run_bind, hr, Result.andThen, Sem.run_pure, Oper.upon]
  exact hK' _ _ (h _ (heap_alloc_new w _) (by simp) ((Chg.refl _ w).alloc _))
theorem wpList_store0 (hg : o.guard = none) (t : TypeId) (x y : Operand) (hop : o.op = Op.store t x y) (b : Nat) (c zc : Array Value) (hx : a.eval x = .pointer (some ⟨b, 0, none⟩)) (hy : a.eval y = .agg zc)
    (hb : w.heap[b]? = some (.cells c t (0, 0))) (hs : ∀ w, (sizeOf t).run P w = .ok zc.size w) (hc : zc.size = c.size) (h1 : zc.toList.all Value.oneCell' = true)
    (h : ∀ w', w'.heap[b]? = some (.cells zc t (0, 0)) → w'.heap.size = w.heap.size → Chg (fun k => k = b) w w' → wpList P ops Q rest (a.put o.dst undef) w') : wpList P ops Q (o :: rest) a w := by
  refine wpList_plain hg fun K' hK' => ?_
  have hst := run_storeCells_at P b 0 t zc.toList 0 c w hb (by simp [hc]) (fun v hv => List.all_eq_true.1 h1 v hv)
  have e : (c.toList.take (0 + 0) ++ zc.toList ++ c.toList.drop (0 + 0 + zc.toList.length)).toArray = zc := by
    have hd : List.drop c.size c.toList = [] := by rw [List.drop_eq_nil_iff]; simp
    simp [hc, hd]
  rw [e] at hst
  have hrun : (Instr.storeAt t (.pointer (some ⟨b, 0, none⟩)) (.agg zc)).run P w = .ok () (w.setRow b zc) := by
    simp [Instr.storeAt, Instr.sureAddr, storeVar, hs, Value.cells, hst]
  unfold Oper.wp
  simp only [execOp, hop, Sem.run_bind, hx, hy, hrun, Result.andThen, Sem.run_pure, Oper.upon]
  exact hK' _ _ (h _ (setRow_heap w b c zc t _ hb) (by simp [World.setRow]) ((Chg.refl (fun k => k = b) w).setRow (fun _ => rfl) _))
end
end Go.Proofs.YthglfmacjoecgaaGreatDoor
namespace Go.Proofs.YthglfmacjoecgaaGreatDoor
open Go.RowKit

/-- A row of n words. -/
def rowF (n : Nat) (f : Nat → Int) : Array Value := ((List.range n).map fun i => Value.int .u32 (f i)).toArray
def updF (f : Nat → Int) (t : Nat) (v : Int) : Nat → Int := fun i => if i = t then v else f i
theorem rowF_size (n : Nat) (f : Nat → Int) : (rowF n f).size = n := by simp [rowF]
theorem rowF_get (n : Nat) (f : Nat → Int) (i : Nat) (h : i < n) : (rowF n f)[i]? = some (.int .u32 (f i)) := by simp [rowF, h]
theorem rowF_set (n : Nat) (f : Nat → Int) (t : Nat) (v : Int) : (rowF n f).setIfInBounds t (.int .u32 v) = rowF n (updF f t v) := by
  apply Array.ext_getElem?
  intro i
  rw [Array.getElem?_setIfInBounds]
  by_cases h : i < n
  · rw [rowF_get n _ i h, rowF_get n _ i h, rowF_size]
    unfold updF
    by_cases e : t = i
    · subst e; simp [h]
    · rw [if_neg e, if_neg (fun h : i = t => e h.symm)]
  · have h1 : ∀ g, (rowF n g)[i]? = none := fun g => by rw [Array.getElem?_eq_none]; rw [rowF_size]; omega
    rw [h1, h1, rowF_size]
    by_cases e : t = i
    · subst e; simp [h]
    · simp [e]
theorem rowF_one (n : Nat) (f : Nat → Int) : (rowF n f).toList.all Value.oneCell' = true := by simp [rowF, List.all_eq_true]; intros; rfl
theorem rowF_congr {n : Nat} {f g : Nat → Int} (h : ∀ i, i < n → f i = g i) : rowF n f = rowF n g := by
  unfold rowF
  congr 1
  apply List.map_congr_left
  intro i hi
  rw [h i (List.mem_range.1 hi)]
theorem row_cell {w : World} {b n : Nat} {f : Nat → Int} {T : TypeId} {fz : Nat × Nat} (h : w.heap[b]? = some (.cells (rowF n f) T fz)) (i : Nat) (hi : i < n) : w.cell? ⟨b, i, none⟩ = some (.int .u32 (f i)) := by
  rw [cell_of h, rowF_get n f i hi]
theorem row_set {w : World} {b n : Nat} {f : Nat → Int} {T : TypeId} {fz : Nat × Nat} (h : w.heap[b]? = some (.cells (rowF n f) T fz)) (t : Nat) (v : Int) : (w.setCell ⟨b, t, none⟩ (.int .u32 v)).heap[b]? = some (.cells (rowF n (updF f t v)) T fz) := by
  rw [heap_set_same h, rowF_set]

def zc83 : Array Value := rowF 64 (fun _ => 0)
theorem alloc83 (w : World) : (Instr.alloc 184 true (.tuple #[])).run Tryz.prog w = .ok (.pointer (some ⟨w.heap.size, 0, none⟩)) (w.alloc (.cells zc83 184)) := by kernel_rfl

/-- A word of a block: its four bytes. -/
def wordB (block : ByteArray) (t : Nat) : Nat → Int
  | 0 => 0
  | j + 1 => bits .or .u32 (wordB block t j * 256 % 4294967296) ((block[4 * t + j]!).toNat)
def fW (block : ByteArray) (k : Nat) : Nat → Int := fun i => if i < k then wordB block i 4 else 0
theorem fW_first (block : ByteArray) (k i : Nat) : updF (fW block k) k (wordB block k 0) i = fW block k i := by
  unfold updF fW
  by_cases e : i = k
  · subst e; simp [wordB]
  · simp [e]
theorem fW_next (block : ByteArray) (k i : Nat) : updF (fW block k) k (wordB block k 4) i = fW block (k + 1) i := by
  unfold updF fW
  by_cases e : i = k
  · subst e; simp
  · rw [if_neg e]
    by_cases e2 : i < k
    · rw [if_pos e2, if_pos (by omega)]
    · rw [if_neg e2, if_neg (by omega)]
theorem updF_upd (f : Nat → Int) (t : Nat) (u v : Int) : updF (updF f t u) t v = updF f t v := by
  funext i
  unfold updF
  split <;> rfl
def sig (x : Int) (a b : Nat) (d : Int) : Int := bits .xor .u32 (turnedR x [a, b]) (x / d)
/-- The words of a block's rounds. -/
def schW (block : ByteArray) (i : Nat) : Int :=
  if _ : i < 16 then wordB block i 4
  else IntKind.u32.wrap (IntKind.u32.wrap (IntKind.u32.wrap (sig (schW block (i - 2)) 17 19 1024 + schW block (i - 7)) + sig (schW block (i - 15)) 7 18 8) + schW block (i - 16))
termination_by i
decreasing_by all_goals omega

theorem cell_allocM' {W : World} {a : Addr} {u : Value} (h : W.cell? a = some u) (o : Obj) : (W.alloc o).cell? a = some u :=
  ((Chg.refl (fun _ => False) W).alloc o).cell h (fun h => h)
theorem cell_set' {W : World} {b i j : Nat} {u : Value} (h : W.cell? ⟨b, i, none⟩ = some u) (hne : i ≠ j) (v : Value) : (W.setCell ⟨b, j, none⟩ v).cell? ⟨b, i, none⟩ = some u := by
  rw [World.cell?_setCell_other _ _ _ _ (by intro e; simp only [Addr.mk.injEq] at e; omega), h]
theorem newcell (W : World) (arr : Array Value) (T : TypeId) (i : Nat) (v : Value) (h : arr[i]? = some v) : (W.alloc (.cells arr T)).cell? ⟨W.heap.size, i, none⟩ = some v := (cell_of (heap_alloc_new W _) i).trans h
theorem newcell1 (W : World) (o : Obj) (arr : Array Value) (T : TypeId) (i : Nat) (v : Value) (h : arr[i]? = some v) : ((W.alloc o).alloc (.cells arr T)).cell? ⟨W.heap.size + 1, i, none⟩ = some v := by
  have := newcell (W.alloc o) arr T i v h
  rw [show (W.alloc o).heap.size = W.heap.size + 1 by simp] at this
  exact this
theorem cell_drew' {W : World} {a : Addr} {u : Value} (h : W.cell? a = some u) : W.drew.cell? a = some u := h
theorem newcellD (W : World) (arr : Array Value) (T : TypeId) (i : Nat) (v : Value) (h : arr[i]? = some v) : (W.alloc (.cells arr T)).drew.cell? ⟨W.heap.size, i, none⟩ = some v := newcell W arr T i v h
theorem newcellE (W : World) (o : Obj) (arr : Array Value) (T : TypeId) (i : Nat) (v : Value) (h : arr[i]? = some v) : ((W.alloc (.cells arr T)).alloc o).drew.cell? ⟨W.heap.size, i, none⟩ = some v := cell_allocM' (newcell W arr T i v h) o
theorem newcellF (W : World) (o : Obj) (arr : Array Value) (T : TypeId) (i : Nat) (v : Value) (h : arr[i]? = some v) : ((W.alloc o).alloc (.cells arr T)).drew.cell? ⟨W.heap.size + 1, i, none⟩ = some v := newcell1 W o arr T i v h
theorem sturned2 (x a b : Int) (g : Nat) (W : World) (a0 : W.cell? ⟨g, 0, none⟩ = some (.int .i64 a)) (a1 : W.cell? ⟨g, 1, none⟩ = some (.int .i64 b)) (h : (1 ≤ a ∧ a ≤ 31) ∧ 1 ≤ b ∧ b ≤ 31) :
    Calls Tryz.prog 127 #[.int .u32 x, .slice (some ⟨g, 0, none⟩) 2 2] W (Rets (.int .u32 (turnedR x [a.toNat, b.toNat])) (fun w' => W = w')) :=
  sturned_any _ [a.toNat, b.toNat] (by intro n hn; simp at hn; rcases hn with rfl | rfl <;> omega) g 2 2 rfl (by simp) W (fun i hi => match i, hi with
    | 0, _ => by rw [a0]; congr 2; simp; omega
    | 1, _ => by rw [a1]; congr 2; simp; omega)
theorem size83 (w : World) : (sizeOf 184).run Tryz.prog w = .ok 64 w := by kernel_rfl
section
variable {P : Program} {w : World} {ops : Array Oper} {rest : List Oper} {o : Oper} {a : Act} {Q : Exit → Act → World → Prop}
theorem wpList_load0 (hg : o.guard = none) (t : TypeId) (x : Operand) (hop : o.op = Op.load t x) (b : Nat) (cs : Array Value) (d : TypeDesc) (hx : a.eval x = .pointer (some ⟨b, 0, none⟩)) {T : TypeId} {fz : Nat × Nat} (hb : w.heap[b]? = some (.cells cs T fz))
    (hu : P.underlying t = some d) (hd : (match d with | .struct _ | .array _ _ => true | _ => false) = true) (hi : (P.info? t).map (·.size) = some cs.size)
    (h : wpList P ops Q rest (a.put o.dst (.agg cs)) w) : wpList P ops Q (o :: rest) a w := by
  refine wpList_plain hg fun K' hK' => ?_
  unfold Oper.wp
  simp only [execOp, hop, hx, Instr.loadAt, Instr.sureAddr, Sem.run_bind, Sem.run_pure, Result.andThen_ok, run_loadVar_row w b T t cs fz d hb hu hd hi, Oper.upon]
  exact hK' _ _ h
end
theorem results_row {P : Program} {fn : Func} {p : Tmp} {ty : TypeId} (h : fn.results = #[.cell p ty]) (tmps : Array Value) (w : World) (b : Nat) (hp : tmps.getD p undef = .pointer (some ⟨b, 0, none⟩)) (cs : Array Value) (hl : (loadVar ty ⟨b, 0, none⟩).run P w = .ok (.agg cs) w) :
    (results fn tmps).run P w = .ok (.agg cs) w := by
  rw [Array.getD_eq_getD_getElem?] at hp
  simp only [results, h]
  simp [hp, asAddr, hl]
def gW (block : ByteArray) (k : Nat) : Nat → Int := fun i => if i < k then schW block i else 0
theorem gW_first (block : ByteArray) (i : Nat) : fW block 16 i = gW block 16 i := by
  unfold fW gW
  by_cases e : i < 16
  · rw [if_pos e, if_pos e, schW, dif_pos e]
  · rw [if_neg e, if_neg e]
theorem gW_old (block : ByteArray) (k i : Nat) (h : i < k) : gW block k i = schW block i := if_pos h
theorem gW_next (block : ByteArray) (k i : Nat) : updF (gW block k) k (schW block k) i = gW block (k + 1) i := by
  unfold updF gW
  by_cases e : i = k
  · subst e; rw [if_pos rfl, if_pos (by omega)]
  · rw [if_neg e]
    by_cases e2 : i < k
    · rw [if_pos e2, if_pos (by omega)]
    · rw [if_neg e2, if_neg (by omega)]

set_option maxRecDepth 100000 in
set_option maxHeartbeats 4000000 in
theorem schedule_any (block : ByteArray) (hs : block.size = 64) (w : World) :
    Calls Tryz.prog 126 #[.string block] w (Rets (.agg (rowF 64 (schW block))) (Chg (fun _ => False) w)) := by
  go_enter Tryz.func126, Tryz.ntmps126
  go_wp2_with (refine wpList_alloc0 rfl 184 rfl zc83 (alloc83 _) ?_; intro w1 ha1 hs1 hc1)
  obtain ⟨b, hb⟩ : ∃ b, b = w.heap.size := ⟨_, rfl⟩
  rw [← hb] at ha1 hs1 ⊢
  have HBE := hid hb
  clear hb
  go_loopw [7] (fun i wr => ∃ k : Nat, k ≤ 16 ∧ i = .int .i64 k ∧ wr.heap[b]? = some (.cells (rowF 64 (fW block k)) 184 (0, 0)) ∧ Chg (fun k => k = b) w1 wr) (fun i _ => 16 - (intOf i).toNat)
  case atStart => exact ⟨0, Nat.zero_le _, rfl, by rw [ha1]; rfl, Chg.refl _ _⟩
  case round =>
    obtain ⟨k, hk, rfl, hblk, hch⟩ := hrel
    have HC := hid hch
    have HB := hid hblk
    clear hch hblk
    by_cases hkn : k < 16
    · have hkn' : (k : Int) < 16 := by omega
      have hw1 : IntKind.i64.wrap (4 * (k : Int)) = 4 * (k : Int) := IntWalk.i64_in _ (by omega)
      have hw2 : IntKind.i64.wrap (4 * (k : Int) + 4) = 4 * (k : Int) + 4 := IntWalk.i64_in _ (by omega)
      have hle1 : (0 : Int) ≤ 4 * (k : Int) + 4 := by omega
      have hle2 : 4 * (k : Int) + 4 ≤ 64 := by omega
      have hs' : (block.size : Int) = 64 := by omega
      have ht1 : (4 * (k : Int)).toNat = 4 * k := by omega
      have ht2 : (4 * (k : Int) + 4).toNat = 4 * k + 4 := by omega
      obtain ⟨wc, cap, hconv, hcell, hfz, hchc, hszc, hcap⟩ := conv_bytes (P := Tryz.prog) 9 125 5 Tryz.underlying9 Tryz.underlying125 Tryz.underlying5 wr (block.extract (4 * k) (4 * k + 4))
      have hes : (block.extract (4 * k) (4 * k + 4)).size = 4 := by simp; omega
      have HX := hid hcell
      have HF := hid hfz
      have HCC := hid hchc
      clear hcell hfz hchc hcap
      have hbw : b < wr.heap.size := heap_lt HB.out
      have hBc := HCC.out.obj HB.out (fun h => h)
      have hBu : wc.heap[b]? = some (.cells (rowF 64 (updF (fW block k) k (wordB block k 0))) 184 (0, 0)) := by
        rw [hBc]
        exact congrArg (fun x => some (Obj.cells x _ _)) (rowF_congr fun i _ => (fW_first block k i).symm)
      have HBU := hid hBu
      clear hBc hBu hszc
      go_wp2_with fail
      obtain ⟨wo, hwo⟩ : ∃ wo : World, wo = wr := ⟨_, rfl⟩
      rw [← hwo] at HB HC HCC HX HF hconv hbw ⊢
      clear hwo
      go_loopw [19] (fun i wx => ∃ j : Nat, j ≤ 4 ∧ i = .int .i64 j ∧ wx.heap[b]? = some (.cells (rowF 64 (updF (fW block k) k (wordB block k j))) 184 (0, 0)) ∧ Chg (fun k => k = b) wc wx) (fun i _ => 4 - (intOf i).toNat)
      case atStart => exact ⟨0, Nat.zero_le _, rfl, HBU.out, Chg.refl _ _⟩
      case round =>
        obtain ⟨j, hj, rfl, hbx, hchx⟩ := hrel
        by_cases hjn : j < 4
        · have hjn' : (j : Int) < 4 := by omega
          have cB := row_cell hbx k (by omega)
          have fB := frozen_of hbx k
          have hbj : (block.extract (4 * k) (4 * k + 4))[j]'(by omega) = block[4 * k + j]! := by
            rw [getElem!_pos block (4 * k + j) (by omega)]; simp [ByteArray.getElem_extract]
          have cX : wr.cell? ⟨wo.heap.size, j, none⟩ = some (.int .u8 (block[4 * k + j]!).toNat) := by
            rw [← hbj]
            exact hchx.cell (p := ⟨wo.heap.size, j, none⟩) (HX.out j (by omega)) (by show ¬ wo.heap.size = b; omega)
          have hlt := (block[4 * k + j]!).toNat_lt
          have hwb : IntKind.u32.wrap ((block[4 * k + j]!).toNat : Int) = (block[4 * k + j]!).toNat := by rw [IntKind.wrap_u32]; omega
          have HBX := hid hbx
          have HCX := hid hchx
          clear hbx hchx
          have uk : updF (fW block k) k (wordB block k j) k = wordB block k j := by unfold updF; rw [if_pos rfl]
          rw [uk] at cB
          clear hbj uk
          go_wp2_with fail
          go_roundw
          case rel =>
            refine ⟨j + 1, by omega, by go_num, ?_, HCX.out.setCell (p := ⟨b, k, none⟩) (fun _ => rfl) _⟩
            rw [row_set HBX.out, updF_upd]
            rfl
          case measure => simp [intOf]; omega
        · obtain rfl : j = 4 := by omega
          go_wp2_with fail
          go_roundw
          case rel =>
            refine ⟨k + 1, by omega, by go_num, ?_, (HC.out.trans HCC.out (fun _ _ h => h.elim)).trans hchx (fun _ _ h => h)⟩
            · rw [hbx]
              exact congrArg (fun x => some (Obj.cells x _ _)) (rowF_congr fun i _ => fW_next block k i)
          case measure => simp [intOf]; omega
    · obtain rfl : k = 16 := by omega
      go_wp2_with fail
      obtain ⟨wo, hwo⟩ : ∃ wo : World, wo = wr := ⟨_, rfl⟩
      rw [← hwo] at HB HC ⊢
      clear hwo
      go_loopw [6] (fun i wx => ∃ k : Nat, 16 ≤ k ∧ k ≤ 64 ∧ i = .int .i64 k ∧ wx.heap[b]? = some (.cells (rowF 64 (gW block k)) 184 (0, 0)) ∧ Chg (fun k => k = b) wo wx) (fun i _ => 64 - (intOf i).toNat)
      case atStart => exact ⟨16, by decide, by decide, rfl, by rw [HB.out]; exact congrArg (fun x => some (Obj.cells x _ _)) (rowF_congr fun i _ => gW_first block i), Chg.refl _ _⟩
      case round =>
        obtain ⟨k, hk16, hk, rfl, hbx, hchx⟩ := hrel
        by_cases hkn : k < 64
        · have hkn' : (k : Int) < 64 := by omega
          obtain ⟨i2, e2⟩ : ∃ i : Nat, i = k - 2 := ⟨_, rfl⟩
          obtain ⟨i7, e7⟩ : ∃ i : Nat, i = k - 7 := ⟨_, rfl⟩
          obtain ⟨i15, e15⟩ : ∃ i : Nat, i = k - 15 := ⟨_, rfl⟩
          obtain ⟨i16, e16⟩ : ∃ i : Nat, i = k - 16 := ⟨_, rfl⟩
          have c2 := row_cell hbx i2 (by omega)
          have c7 := row_cell hbx i7 (by omega)
          have c15 := row_cell hbx i15 (by omega)
          have c16 := row_cell hbx i16 (by omega)
          have ck := row_cell hbx k (by omega)
          have fk := frozen_of hbx k
          rw [gW_old block k i2 (by omega)] at c2
          rw [gW_old block k i7 (by omega)] at c7
          rw [gW_old block k i15 (by omega)] at c15
          rw [gW_old block k i16 (by omega)] at c16
          have w2 : IntKind.i64.wrap ((k : Int) - 2) = (i2 : Int) := by rw [IntWalk.i64_in _ (by omega)]; omega
          have w7 : IntKind.i64.wrap ((k : Int) - 7) = (i7 : Int) := by rw [IntWalk.i64_in _ (by omega)]; omega
          have w15 : IntKind.i64.wrap ((k : Int) - 15) = (i15 : Int) := by rw [IntWalk.i64_in _ (by omega)]; omega
          have w16 : IntKind.i64.wrap ((k : Int) - 16) = (i16 : Int) := by rw [IntWalk.i64_in _ (by omega)]; omega
          have l2 : (i2 : Int) < 64 := by omega
          have l7 : (i7 : Int) < 64 := by omega
          have l15 : (i15 : Int) < 64 := by omega
          have l16 : (i16 : Int) < 64 := by omega
          have n2 : i2 ≠ k := by omega
          have n7 : i7 ≠ k := by omega
          have n15 : i15 ≠ k := by omega
          have n16 : i16 ≠ k := by omega
          have HE : Hid (schW block k = IntKind.u32.wrap (IntKind.u32.wrap (IntKind.u32.wrap (sig (schW block i2) 17 19 1024 + schW block i7) + sig (schW block i15) 7 18 8) + schW block i16)) := by
            show _ = _
            rw [e2, e7, e15, e16]
            conv => lhs; rw [schW, dif_neg (by omega)]
          clear e2 e7 e15 e16
          have HBX := hid hbx
          have HCX := hid hchx
          have hbl : b < wr.heap.size := heap_lt hbx
          clear hbx hchx
          generalize schW block i2 = x2 at c2 HE
          generalize schW block i7 = x7 at c7 HE
          generalize schW block i15 = x15 at c15 HE
          generalize schW block i16 = x16 at c16 HE
          go_wp2_with fail
          go_region_held3 (fun w' => w'.cell? ⟨b, i2, none⟩ = some (.int .u32 x2) ∧ w'.cell? ⟨b, i7, none⟩ = some (.int .u32 x7) ∧ w'.cell? ⟨b, i15, none⟩ = some (.int .u32 x15) ∧ w'.cell? ⟨b, i16, none⟩ = some (.int .u32 x16)) (refine ⟨?_, ?_, ?_, ?_⟩ <;> (repeat' (first | with_reducible assumption | with_reducible (apply cell_allocM') | with_reducible (apply cell_drew') | with_reducible (refine cell_set' ?_ (by assumption) _)))) (first | (go_at_call 127; refine (sturned2 _ _ _ _ _ (by first | with_reducible exact newcellD wr _ _ _ _ rfl | with_reducible exact newcellE wr _ _ _ _ _ rfl | with_reducible exact newcellF wr _ _ _ _ _ rfl) (by first | with_reducible exact newcellD wr _ _ _ _ rfl | with_reducible exact newcellE wr _ _ _ _ _ rfl | with_reducible exact newcellF wr _ _ _ _ _ rfl) (by decide)).mono ?_; rintro e w' ⟨rfl, rfl⟩))
          all_goals
            go_wp2_with fail
            go_roundw
            case rel =>
              (repeat apply Exists.intro)
              refine ⟨⟨k + 1, by omega, by omega, by go_num, ?_, (((HCX.out.setCell (p := ⟨b, k, none⟩) (fun _ => rfl) _).alloc _).alloc _).drew⟩, rfl⟩
              refine (heap_alloc_old' (heap_alloc_old' (row_set HBX.out k _) _) _).trans ?_
              rw [← rowF_congr (fun i _ => gW_next block k i), HE.out]
              rfl
            case measure => simp [intOf]; omega
        · obtain rfl : k = 64 := by omega
          have hfin : wr.heap[b]? = some (.cells (rowF 64 (schW block)) 184 (0, 0)) := by
            rw [hbx]; exact congrArg (fun x => some (Obj.cells x _ _)) (rowF_congr fun i hi => gW_old block 64 i hi)
          have HFI := hid hfin
          have HCX := hid hchx
          clear hbx hchx hfin
          go_wp2_with (first | (refine wpList_load0 rfl 184 _ rfl b (rowF 64 (schW block)) (.array 64 176) rfl HFI.out Tryz.underlying184 rfl (by rw [rowF_size]; kernel_rfl) ?_) | (refine wpList_store0 rfl 184 _ _ rfl b (rowF 64 (schW block)) (rowF 64 (schW block)) rfl rfl HFI.out (by rw [rowF_size]; exact size83) rfl (rowF_one _ _) ?_; intro w5 hb5 hs5 hc5))
          refine bodyPost_ret (v := .agg (rowF 64 (schW block))) ?_ rfl ⟨rfl, ?_⟩
          · refine results_row Tryz.results126 _ _ b rfl _ (run_loadVar_row _ b 184 184 _ (0, 0) (.array 64 176) hb5 Tryz.underlying184 rfl (by rw [rowF_size]; kernel_rfl))
          · have h1 : Chg (fun k => k = b) w1 w5 := ((HC.out.trans HCX.out (fun _ _ h => h)).trans hc5 (fun _ _ h => h))
            exact hc1.trans h1 (fun i hi h => by have := HBE.out; omega)
end Go.Proofs.YthglfmacjoecgaaGreatDoor
namespace Go.Proofs.YthglfmacjoecgaaGreatDoor
open Go.RowKit

/-- A block whose first eight cells are a state's words. -/
structure StAt (w : World) (b : Nat) (T : TypeId) (cs : Array Value) (f : Nat → Int) : Prop where
  heap : w.heap[b]? = some (.cells cs T (0, 0))
  word : ∀ i, i < 8 → cs[i]? = some (.int .u32 (f i))
theorem StAt.cell {w : World} {b : Nat} {T : TypeId} {cs : Array Value} {f : Nat → Int} (h : StAt w b T cs f) (i : Nat) (hi : i < 8) : w.cell? ⟨b, i, none⟩ = some (.int .u32 (f i)) := by rw [cell_of h.heap, h.word i hi]
theorem StAt.row {w : World} {b : Nat} {T : TypeId} {f : Nat → Int} (h : w.heap[b]? = some (.cells (rowF 8 f) T (0, 0))) : StAt w b T (rowF 8 f) f := ⟨h, fun i hi => rowF_get 8 f i hi⟩
theorem StAt.set {w : World} {b : Nat} {T : TypeId} {cs : Array Value} {f : Nat → Int} (h : StAt w b T cs f) (t : Nat) (v : Int) : StAt (w.setCell ⟨b, t, none⟩ (.int .u32 v)) b T (cs.setIfInBounds t (.int .u32 v)) (updF f t v) := by
  refine ⟨heap_set_same h.heap t _, fun i hi => ?_⟩
  rw [Array.getElem?_setIfInBounds]
  unfold updF
  have hs : i < cs.size := (Array.getElem?_eq_some_iff.1 (h.word i hi)).1
  by_cases e : t = i
  · subst e; rw [if_pos rfl, if_pos hs, if_pos rfl]
  · rw [if_neg e, if_neg (fun h => e h.symm)]; exact h.word i hi

theorem StAt.drew {w : World} {b : Nat} {T : TypeId} {cs : Array Value} {f : Nat → Int} (h : StAt w b T cs f) : StAt w.drew b T cs f := ⟨h.heap, h.word⟩
theorem StAt.congr {w : World} {b : Nat} {T : TypeId} {cs : Array Value} {f g : Nat → Int} (h : StAt w b T cs f) (hfg : ∀ i, i < 8 → f i = g i) : StAt w b T cs g := ⟨h.heap, fun i hi => by rw [h.word i hi, hfg i hi]⟩
def ch (e f g : Int) : Int := bits .xor .u32 (bits .and .u32 e f) (bits .and .u32 (bits .xor .u32 IntKind.u32.max e) g)
def maj (a b c : Int) : Int := bits .xor .u32 (bits .xor .u32 (bits .and .u32 a b) (bits .and .u32 a c)) (bits .and .u32 b c)
def t1R (g : Nat → Int) (k wt : Int) : Int := IntKind.u32.wrap (IntKind.u32.wrap (IntKind.u32.wrap (IntKind.u32.wrap (g 7 + turnedR (g 4) [6, 11, 25]) + ch (g 4) (g 5) (g 6)) + k) + wt)
def t2R (g : Nat → Int) : Int := IntKind.u32.wrap (turnedR (g 0) [2, 13, 22] + maj (g 0) (g 1) (g 2))
/-- A round. -/
def roundF (g : Nat → Int) (k wt : Int) : Nat → Int
  | 0 => IntKind.u32.wrap (t1R g k wt + t2R g)
  | 4 => IntKind.u32.wrap (g 3 + t1R g k wt)
  | n + 1 => g n
def wordsL : List Int := [1116352408, 1899447441, 3049323471, 3921009573, 961987163, 1508970993, 2453635748, 2870763221, 3624381080, 310598401, 607225278, 1426881987, 1925078388, 2162078206, 2614888103, 3248222580, 3835390401, 4022224774, 264347078, 604807628, 770255983, 1249150122, 1555081692, 1996064986, 2554220882, 2821834349, 2952996808, 3210313671, 3336571891, 3584528711, 113926993, 338241895, 666307205, 773529912, 1294757372, 1396182291, 1695183700, 1986661051, 2177026350, 2456956037, 2730485921, 2820302411, 3259730800, 3345764771, 3516065817, 3600352804, 4094571909, 275423344, 430227734, 506948616, 659060556, 883997877, 958139571, 1322822218, 1537002063, 1747873779, 1955562222, 2024104815, 2227730452, 2361852424, 2428436474, 2756734187, 3204031479, 3329325298]
def rounds (block : ByteArray) (f : Nat → Int) : Nat → Nat → Int
  | 0 => f
  | k + 1 => roundF (rounds block f k) (wordsL.getD k 0) (schW block k)
/-- The state behind a block. -/
def mixR (block : ByteArray) (f : Nat → Int) : Nat → Int := fun i => IntKind.u32.wrap (f i + rounds block f 64 i)

theorem alloc74 (w : World) : (Instr.alloc 178 true (.tuple #[])).run Tryz.prog w = .ok (.pointer (some ⟨w.heap.size, 0, none⟩)) (w.alloc (.cells (rowF 8 (fun _ => 0)) 178)) := by kernel_rfl
theorem size74 (w : World) : (sizeOf 178).run Tryz.prog w = .ok 8 w := by kernel_rfl
section
variable {P : Program} {w : World} {ops : Array Oper} {rest : List Oper} {o : Oper} {a : Act} {Q : Exit → Act → World → Prop}
theorem wpList_loadst (hgd : o.guard = none) (ty : TypeId) (x : Operand) (ho : o.op = .load ty x)
    (b : Nat) (hx : a.eval x = .pointer (some ⟨b, 0, none⟩)) (cs : Array Value) (d : TypeDesc) (hc : w.rangeAt b 0 cs.toList)
    (hu : P.underlying ty = some d) (hd : d.isRow = true) (hi : (P.info? ty).map (·.size) = some cs.size)
    (h : wpList P ops Q rest (a.put o.dst (.agg cs)) w) : wpList P ops Q (o :: rest) a w :=
  wpList_load_mid hgd ty x ho b 0 hx cs.toList d hc hu hd (by simpa using hi) (by simpa using h)
end
theorem StAt.range {w : World} {b : Nat} {T : TypeId} {cs : Array Value} {f : Nat → Int} (h : StAt w b T cs f) : w.rangeAt b 0 (rowF 8 f).toList := by
  intro j v hj
  have hj' : (rowF 8 f)[j]? = some v := by simpa using hj
  have h8 : j < 8 := by have := (Array.getElem?_eq_some_iff.1 hj').1; rwa [rowF_size] at this
  rw [Nat.zero_add, h.cell j h8, ← rowF_get 8 f j h8, hj']

theorem sturned3 (x a b c : Int) (g : Nat) (W : World) (a0 : W.cell? ⟨g, 0, none⟩ = some (.int .i64 a)) (a1 : W.cell? ⟨g, 1, none⟩ = some (.int .i64 b)) (a2 : W.cell? ⟨g, 2, none⟩ = some (.int .i64 c)) (h : (1 ≤ a ∧ a ≤ 31) ∧ (1 ≤ b ∧ b ≤ 31) ∧ 1 ≤ c ∧ c ≤ 31) :
    Calls Tryz.prog 127 #[.int .u32 x, .slice (some ⟨g, 0, none⟩) 3 3] W (Rets (.int .u32 (turnedR x [a.toNat, b.toNat, c.toNat])) (fun w' => W = w')) :=
  sturned_any _ [a.toNat, b.toNat, c.toNat] (by intro n hn; simp at hn; rcases hn with rfl | rfl | rfl <;> omega) g 3 3 rfl (by simp) W (fun i hi => match i, hi with
    | 0, _ => by rw [a0]; congr 2; simp; omega
    | 1, _ => by rw [a1]; congr 2; simp; omega
    | 2, _ => by rw [a2]; congr 2; simp; omega)
theorem index64 (f : Nat → Int) (k : Nat) (hk : k < 64) (W : World) : (Instr.index 184 (.agg (rowF 64 f)) (.int .i64 k)).run Tryz.prog W = .ok (.int .u32 (f k)) W := by
  have h := rowF_get 64 f k hk
  simp [Instr.index, asIntOf, run_underlying Tryz.underlying184, Tryz.sizeOf176, Tryz.isAgg176, part, h]
  intro h64; omega
theorem wp_gen {P : Program} {c : Code} {Q : Exit → Act → World → Prop} {a : Act} {w : World} (R : World → Prop) (h : R w) (k : ∀ W, R W → Code.wp P c Q a W) : Code.wp P c Q a w := k w h
theorem w_gen {X : World → Prop} {w : World} (R : World → Prop) (h : R w) (k : ∀ W, R W → X W) : X w := k w h
def updL (f : Nat → Int) : Nat → List Int → Nat → Int
  | _, [] => f
  | o, v :: r => updL (updF f o v) (o + 1) r
theorem setCells_row {b n : Nat} {T : TypeId} {fz : Nat × Nat} : ∀ {w : World} {f : Nat → Int} (_ : w.heap[b]? = some (.cells (rowF n f) T fz)) (o : Nat) (vs : List Int), (w.setCells b o (vs.map (Value.int .u32))).heap[b]? = some (.cells (rowF n (updL f o vs)) T fz)
  | _, _, h, _, [] => h
  | _, _, h, o, v :: r => setCells_row (row_set h o v) (o + 1) r
theorem setCells_chg (b : Nat) : ∀ (w : World) (o : Nat) (vs : List Value), Chg (fun k => k = b) w (w.setCells b o vs)
  | w, _, [] => Chg.refl _ w
  | w, o, v :: r => by
    have h1 : Chg (fun k => k = b) w (w.setCell ⟨b, o, none⟩ v) := (Chg.refl (fun k => k = b) w).setCell (p := ⟨b, o, none⟩) (fun _ => rfl) v
    exact h1.trans (setCells_chg b _ (o + 1) r) (fun _ _ h => h)
def gWd : Nat := 0
theorem wdG : Tryz.prog.globalNamed "apiary/stamp.words" = some gWd := by kernel_rfl
theorem words_cell {w : World} (h : Lib.TabIs Tryz.prog w "apiary/stamp.words" .u32 wordsL) (k : Nat) (hk : k < 64) : w.cell? ⟨0, k, none⟩ = some (.int .u32 (wordsL.getD k 0)) := h.cell wdG k (by exact hk)

set_option maxRecDepth 100000 in
set_option maxHeartbeats 4000000 in
theorem mix_any (block : ByteArray) (hs : block.size = 64) (w : World) (b : Nat) (T : TypeId) (cs : Array Value) (f : Nat → Int) (hS : StAt w b T cs f) (hT : Lib.TabIs Tryz.prog w "apiary/stamp.words" .u32 wordsL) (_ : gWd ≠ b) :
    Calls Tryz.prog 105 #[.pointer (some ⟨b, 0, none⟩), .string block] w (fun e w' => e = .returned (.tuple #[]) ∧ ∃ cs', StAt w' b T cs' (mixR block f) ∧ cs'.size = cs.size ∧ (∀ i, 8 ≤ i → cs'[i]? = cs[i]?) ∧ Chg (fun k => k = b) w w') := by
  have HS := hid hS
  have HT := hid hT
  have hbw := heap_lt hS.heap
  clear hS hT
  go_enter Tryz.func105, Tryz.ntmps105
  go_wp2_with (first | (refine wpList_loadst rfl 178 _ rfl b rfl (rowF 8 f) (.array 8 176) HS.out.range Tryz.underlying178 rfl (by rw [rowF_size]; kernel_rfl) ?_) | (refine wpList_alloc0 rfl 178 rfl (rowF 8 (fun _ => 0)) (alloc74 _) ?_; intro w1 ha1 hs1 hc1) | (refine wpList_store0 rfl 178 _ _ rfl w.heap.size (rowF 8 (fun _ => 0)) (rowF 8 f) rfl rfl ha1 (by rw [rowF_size]; exact size74) rfl (rowF_one _ _) ?_; intro w2 hb2 hs2 hc2) | (go_at_call 126; refine (schedule_any block hs _).mono ?_; rintro e w3 ⟨rfl, hc3⟩))
  obtain ⟨bv, hbv⟩ : ∃ bv, bv = w.heap.size := ⟨_, rfl⟩
  rw [← hbv] at hb2 hc2 ⊢
  have hb3 := hc3.obj hb2 (fun h => h)
  have hbb : b ≠ bv := by omega
  have hgw : gWd ≠ bv := by
    have := World.block_lt_of_cell? w _ (words_cell HT.out 0 (by decide))
    show 0 ≠ bv
    have e : (⟨0, 0, none⟩ : Addr).block = 0 := rfl
    omega
  have hch3 : Chg (fun k => k = bv) w w3 := ((hc1.trans hc2 (fun i hi h => by omega)).trans hc3 (fun _ _ h => h.elim)).mono (fun _ _ h => h.elim)
  have HB3 := hid hb3
  have HC3 := hid hch3
  have HBV := hid hbv
  clear ha1 hb2 hc1 hc2 hc3 hs1 hs2 hb3 hch3 hbv
  go_loopw [17] (fun i wr => ∃ k : Nat, k ≤ 64 ∧ i = .int .i64 k ∧ wr.heap[bv]? = some (.cells (rowF 8 (rounds block f k)) 178 (0, 0)) ∧ Chg (fun k => k = bv) w3 wr) (fun i _ => 64 - (intOf i).toNat)
  case atStart => exact ⟨0, Nat.zero_le _, rfl, HB3.out, Chg.refl _ _⟩
  case round =>
    obtain ⟨k, hk, rfl, hblk, hch⟩ := hrel
    by_cases hkn : k < 64
    · have hkn' : (k : Int) < 64 := by omega
      have hR : Hid (rounds block f (k + 1) = roundF (rounds block f k) (wordsL.getD k 0) (schW block k)) := hid rfl
      have hix : ∀ W, (Instr.index 184 (.agg (rowF 64 (schW block))) (.int .i64 k)).run Tryz.prog W = .ok (.int .u32 (schW block k)) W := fun W => index64 _ k hkn W
      have hcw0 : wr.cell? ⟨0, k, none⟩ = some (.int .u32 (wordsL.getD k 0)) := (HC3.out.trans hch (fun _ _ h => h)).cell (words_cell HT.out k hkn) hgw
      generalize rounds block f k = g at hblk hR
      generalize wordsL.getD k 0 = kw at hR hcw0
      generalize schW block k = wt at hR hix
      have c0 := row_cell hblk 0 (by decide)
      have c4 := row_cell hblk 4 (by decide)
      have HBL := hid hblk
      have HCH := hid hch
      have HCW := hid hcw0
      clear hblk hch hcw0
      go_wp2_with fail
      go_quiet (fail)
      go_wp2_with fail
      refine wp_gen (fun W => W.heap[bv]? = some (.cells (rowF 8 g) 178 (0, 0)) ∧ Chg (fun k => k = bv) w3 W ∧ W.cell? ⟨0, k, none⟩ = some (.int .u32 kw)) ⟨HBL.out, HCH.out.drewN _, HCW.out⟩ ?_
      rintro W ⟨hblk, hch, cw⟩
      have HBL2 := hid hblk
      have HCH2 := hid hch
      have d5 := row_cell hblk 5 (by decide)
      have d6 := row_cell hblk 6 (by decide)
      have d7 := row_cell hblk 7 (by decide)
      clear hblk hch c0 c4
      go_region_held3 (fun w' => w'.cell? ⟨bv, 5, none⟩ = some (.int .u32 (g 5)) ∧ w'.cell? ⟨bv, 6, none⟩ = some (.int .u32 (g 6)) ∧ w'.cell? ⟨bv, 7, none⟩ = some (.int .u32 (g 7)) ∧ w'.cell? ⟨0, k, none⟩ = some (.int .u32 kw)) (refine ⟨?_, ?_, ?_, ?_⟩ <;> (repeat' (first | with_reducible assumption | with_reducible (apply cell_allocM') | with_reducible (apply cell_drew')))) (first | (go_at_call 127; refine (sturned3 _ _ _ _ _ _ (by with_reducible exact newcellD W _ _ _ _ rfl) (by with_reducible exact newcellD W _ _ _ _ rfl) (by with_reducible exact newcellD W _ _ _ _ rfl) (by decide)).mono ?_; rintro e w' ⟨rfl, rfl⟩))
      go_wp2_with fail
      refine wp_gen (fun W => W.heap[bv]? = some (.cells (rowF 8 g) 178 (0, 0)) ∧ Chg (fun k => k = bv) w3 W) ⟨heap_alloc_old' HBL2.out _, (HCH2.out.alloc _).drew⟩ ?_
      clear HBL HCH HCW HBL2 HCH2 d5 d6 d7 cw
      rintro W2 ⟨hblk, hch⟩
      have HBL := hid hblk
      have HCH := hid hch
      have d1 := row_cell hblk 1 (by decide)
      have d2 := row_cell hblk 2 (by decide)
      clear hblk hch
      go_region_held3 (fun w' => w'.cell? ⟨bv, 1, none⟩ = some (.int .u32 (g 1)) ∧ w'.cell? ⟨bv, 2, none⟩ = some (.int .u32 (g 2))) (refine ⟨?_, ?_⟩ <;> (repeat' (first | with_reducible assumption | with_reducible (apply cell_allocM') | with_reducible (apply cell_drew')))) (first | (go_at_call 127; refine (sturned3 _ _ _ _ _ _ (by with_reducible exact newcellD W2 _ _ _ _ rfl) (by with_reducible exact newcellD W2 _ _ _ _ rfl) (by with_reducible exact newcellD W2 _ _ _ _ rfl) (by decide)).mono ?_; rintro e w' ⟨rfl, rfl⟩))
      go_wp2_with fail
      refine wp_gen (fun W => W.heap[bv]? = some (.cells (rowF 8 g) 178 (0, 0)) ∧ Chg (fun k => k = bv) w3 W) ⟨heap_alloc_old' HBL.out _, (HCH.out.alloc _).drew⟩ ?_
      clear HBL HCH d1 d2
      rintro W3 ⟨hblk, hch⟩
      have HBL := hid hblk
      have HCH := hid hch
      have hcopy := run_copy_cells (P := Tryz.prog) W3.drew 201 201 3 176 bv 1 7 7 ⟨bv, 0, none⟩ 7 8 [.int .u32 (g 0), .int .u32 (g 1), .int .u32 (g 2), .int .u32 (g 3), .int .u32 (g 4), .int .u32 (g 5), .int .u32 (g 6)] Tryz.underlying201 (by kernel_rfl) rfl
        (fun j v hj => by
          have hh := row_cell hblk
          match j, hj with
          | 0, hj => simp at hj; subst hj; exact hh 0 (by decide)
          | 1, hj => simp at hj; subst hj; exact hh 1 (by decide)
          | 2, hj => simp at hj; subst hj; exact hh 2 (by decide)
          | 3, hj => simp at hj; subst hj; exact hh 3 (by decide)
          | 4, hj => simp at hj; subst hj; exact hh 4 (by decide)
          | 5, hj => simp at hj; subst hj; exact hh 5 (by decide)
          | 6, hj => simp at hj; subst hj; exact hh 6 (by decide)
          | n + 7, hj => simp at hj)
        (fun j hj => by rw [show W3.drew.cell? ⟨bv, 1 + j, none⟩ = _ from row_cell hblk (1 + j) (by simp at hj; omega)]; rfl)
        (fun j hj => frozen_of hblk (1 + j)) (by simp [Value.oneCell'])
      clear hblk hch
      go_region
      refine w_gen (X := fun W => Exit.then _ _ Exit.normal _ W) (fun W => W.heap[bv]? = some (.cells (rowF 8 (updL g 1 [g 0, g 1, g 2, g 3, g 4, g 5, g 6])) 178 (0, 0)) ∧ Chg (fun k => k = bv) w3 W) ⟨setCells_row (w := W3.drew) HBL.out 1 [g 0, g 1, g 2, g 3, g 4, g 5, g 6], HCH.out.drew.trans (setCells_chg _ _ _ _) (fun _ _ h => h)⟩ ?_
      clear HBL HCH hcopy
      rintro W4 ⟨hblk, hch⟩
      have HBL := hid hblk
      have HCH := hid hch
      have x0 : W4.cell? ⟨bv, 0, none⟩ = some (.int .u32 (g 0)) := row_cell hblk 0 (by decide)
      have x4 : W4.cell? ⟨bv, 4, none⟩ = some (.int .u32 (g 3)) := row_cell hblk 4 (by decide)
      have f0 := frozen_of hblk 0
      have f4 := frozen_of hblk 4
      clear hblk hch
      go_wp2_with fail
      go_roundw
      case rel =>
        refine ⟨k + 1, by omega, by go_num, (row_set (row_set HBL.out 0 _) 4 _).trans ?_, (HCH.out.setCell (p := ⟨bv, 0, none⟩) (fun _ => rfl) _).setCell (p := ⟨bv, 4, none⟩) (fun _ => rfl) _⟩
        rw [hR.out]
        refine congrArg (fun x => some (Obj.cells x _ _)) (rowF_congr fun i hi => ?_)
        match i, hi with
        | 0, _ => simp only [updF, roundF, t1R, t2R, ch, maj, IntKind.wrap_u32]; simp
        | 1, _ => rfl
        | 2, _ => rfl
        | 3, _ => rfl
        | 4, _ => simp only [updF, roundF, t1R, ch, IntKind.wrap_u32]; simp
        | 5, _ => rfl
        | 6, _ => rfl
        | 7, _ => rfl
      case measure => simp [intOf]; omega
    · obtain rfl : k = 64 := by omega
      have hb0 : wr.heap[b]? = some (.cells cs T (0, 0)) := (HC3.out.trans hch (fun _ _ h => h)).obj HS.out.heap hbb
      have hS0 : StAt wr b T cs f := ⟨hb0, HS.out.word⟩
      have HB := hid hblk
      have HCH := hid hch
      have HS0 := hid hS0
      clear hblk hch hb0 hS0
      go_wp2_with fail
      obtain ⟨wo, hwo⟩ : ∃ wo : World, wo = wr := ⟨_, rfl⟩
      rw [← hwo] at HB HCH HS0 ⊢
      clear hwo
      obtain ⟨g, hg⟩ : ∃ g, g = rounds block f 64 := ⟨_, rfl⟩
      rw [← hg] at HB
      have HG := hid hg
      clear hg
      go_loopw [80] (fun i wr => ∃ k : Nat, ∃ cs', k ≤ 8 ∧ i = .int .i64 k ∧ StAt wr b T cs' (fun i => if i < k then IntKind.u32.wrap (f i + g i) else f i) ∧ cs'.size = cs.size ∧ (∀ i, 8 ≤ i → cs'[i]? = cs[i]?) ∧ Chg (fun k => k = b) wo wr) (fun i _ => 8 - (intOf i).toNat)
      case atStart => exact ⟨0, cs, Nat.zero_le _, rfl, HS0.out, rfl, fun _ _ => rfl, Chg.refl _ _⟩
      case round =>
        obtain ⟨k, cs', hk, rfl, hS1, hsz, hrest, hch⟩ := hrel
        by_cases hkn : k < 8
        · have hkn' : (k : Int) < 8 := by omega
          have c1 := hS1.cell k hkn
          rw [if_neg (Nat.lt_irrefl k)] at c1
          have fr := frozen_of hS1.heap k
          have c2 := row_cell (hch.obj HB.out (Ne.symm hbb)) k hkn
          have HS1 := hid hS1
          have HRR := hid hrest
          have HCC := hid hch
          clear hS1 hrest hch
          go_wp2_with fail
          go_region
          all_goals go_wp2_with fail
          all_goals go_roundw
          case rel =>
            refine ⟨k + 1, _, by omega, by go_num, (StAt.congr (HS1.out.set k _) fun i hi => ?_).drew, by rw [Array.size_setIfInBounds]; exact hsz, fun i hi => ?_, (HCC.out.setCell (p := ⟨b, k, none⟩) (fun _ => rfl) _).drew⟩
            · unfold updF
              by_cases e : i = k
              · subst e; rw [if_pos rfl, if_pos (by omega), IntKind.wrap_u32]
              · rw [if_neg e]
                by_cases e2 : i < k
                · show (if i < k then _ else _) = _
                  rw [if_pos e2, if_pos (by omega)]
                · show (if i < k then _ else _) = _
                  rw [if_neg e2, if_neg (by omega)]
            · rw [Array.getElem?_setIfInBounds, if_neg (by omega)]; exact HRR.out i hi
          case measure => simp [intOf]; omega
        · obtain rfl : k = 8 := by omega
          go_wp2_with fail
          go_end0
          refine ⟨rfl, cs', StAt.congr hS1 (fun i hi => by rw [if_pos hi, HG.out]; rfl), hsz, hrest, ?_⟩
          have hfin : Chg (fun k => k = b) w wr := (((HC3.out.mono (fun i hi h => by have := HBV.out; omega)).trans HCH.out (fun i hi h => by have := HBV.out; omega)).trans hch (fun _ _ h => h))
          exact hfin
end Go.Proofs.YthglfmacjoecgaaGreatDoor
