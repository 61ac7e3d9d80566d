/- Texts of the proof, one behind the other: apiaryref06.pop walked: how many blobs a step takes, and puts; An append of what lies elsewhere; a row of texts; apiaryref06.step: the rest of a stack, laid anew; an append to it. -/
import Derived.Test.YthglfmacjoecgaaGreatDoorMg29
import Derived.Deep.Upon
namespace Go.Proofs.YthglfmacjoecgaaGreatDoor
open Go.RowKit

def popT (c : Int) : Int := if c = 105 ∨ c = 112 then 0 else if c = 99 ∨ c = 61 then 2 else if c = 115 then 2 else if c = 100 then 1 else if c = 120 ∨ c = 106 then 1 else if c = 103 then 0 else 1
def popG (c : Int) : Int := if c = 105 ∨ c = 112 then 1 else if c = 99 ∨ c = 61 then 1 else if c = 115 then 2 else if c = 100 then 2 else if c = 120 ∨ c = 106 then 0 else if c = 103 then 0 else 1

set_option maxHeartbeats 2000000 in
theorem rpop_any (c : Int) (w : World) : Calls Tryz.prog 130 #[.int .u8 c] w (Rets (.tuple #[.int .i64 (popT c), .int .i64 (popG c)]) (fun w' => w = w')) := by
  go_enter Tryz.func130, Tryz.ntmps130
  go_wp2
  all_goals (refine bodyPost_ret (v := .tuple #[.int .i64 (popT c), .int .i64 (popG c)]) ?_ rfl ⟨rfl, rfl⟩)
  all_goals simp_all [results, Tryz.results130, go_sem, popT, popG]
end Go.Proofs.YthglfmacjoecgaaGreatDoor
namespace Go.Proofs.YthglfmacjoecgaaGreatDoor
open Go.RowKit

/-- 'append(s, x ..)' at a row of the call's own, the new elements lying anywhere; there may be none. -/
theorem wpList_append_lies {P : Program} {w : World} {ops : Array Oper} {rest : List Oper} {o : Oper} {a : Act} {Q : Exit → Act → World → Prop} (hgd : o.guard = none) (s x : Operand) (t : TypeId)
    (ho : o.op = .call { callee := .builtin .append, args := #[s, x], argTypes := #[t, t] })
    {e : TypeId} {size bytes : Nat} (T : ElT P t e size bytes)
    {v : Value} {n : Nat} {xs : List Value} (hown : w.ownsRow 0 e size v n xs) (hs : a.eval s = v)
    (ad : Addr) (m c : Nat) (news : List Value) (hx : a.eval x = .slice (some ad) m c) (hl : news.length = m * size) (hnews : ∀ j u, news[j]? = some u → w.cell? (ad.add j) = some u) (h1 : ∀ u ∈ news, u.oneCell' = true)
    (h63 : n + m ≤ maxLen) (hbytes : (n + m) * bytes ≤ 140737488355328)
    (h : ∀ v' w', w'.ownsRow 0 e size v' (n + m) (xs ++ news) → Chg (fun k => v.ownBlock = some k) w w' → (∀ k, v'.ownBlock = some k → v.ownBlock = some k ∨ w.heap.size ≤ k) →
      wpList P ops Q rest (a.put o.dst v') w') : wpList P ops Q (o :: rest) a w :=
  wpList_plain hgd fun _ hK => by
    obtain ⟨i, z, hi, hz, h2, h3, h4, _⟩ := T.info
    obtain ⟨v', w', hr, h2, h3, h4, _⟩ := run_append_chg (P := P) w t o.type e i z size bytes T.ht hi hz h2 h3 h4 T.pos v n xs hown ad m c news hl hnews h1 h63 hbytes
    unfold Oper.wp execOp
    simp only [ho, resolve, invoke, builtin, Sem.run_bind, Sem.run_pure, Result.andThen_ok, List.map_toArray, List.map_cons, List.map_nil, hs, hx, hr]
    exact hK _ _ (h v' w' h2 h3 h4)
theorem add_off (g o j : Nat) : (⟨g, o, none⟩ : Addr).add j = ⟨g, o + j, none⟩ := by unfold Addr.add; split <;> simp_all
theorem own_form {w : World} {e : TypeId} {size n : Nat} {v : Value} {xs : List Value} (h : w.ownsRow 0 e size v n xs) : ∃ oa cap, v = .slice oa n cap := by
  rcases h.2 with ⟨rfl, rfl⟩ | ⟨g, cap, cur, rfl, _⟩
  · exact ⟨none, 0, rfl⟩
  · exact ⟨_, cap, rfl⟩
/-- The first texts of a row. -/
theorem news_take {w : World} {g cap n : Nat} {xs : List ByteArray} (hown : w.ownsRow 0 9 1 (.slice (some ⟨g, 0, none⟩) n cap) n (xs.map Value.string)) (hn : n = xs.length) (i : Nat) :
    ∀ j u, ((xs.take i).map Value.string)[j]? = some u → w.cell? ((⟨g, 0, none⟩ : Addr).add j) = some u := by
  intro j u hj
  rw [add_off, Nat.zero_add]
  have hj2 : j < (xs.take i).length := by have := (List.getElem?_eq_some_iff.1 hj).1; simpa using this
  have hlt : j < xs.length := by rw [List.length_take] at hj2; omega
  rw [hown.cellAt j (by omega), ← hj]
  simp only [List.getElem?_map, List.getElem?_take]
  rw [if_pos (by rw [List.length_take] at hj2; omega)]
end Go.Proofs.YthglfmacjoecgaaGreatDoor
namespace Go.Proofs.YthglfmacjoecgaaGreatDoor
open Go.RowKit

/-- A row of texts of the call's own, with a block. -/
def RowT (w : World) (g cap n : Nat) (l : List ByteArray) : Prop := w.ownsRow 0 9 1 (.slice (some ⟨g, 0, none⟩) n cap) n (l.map Value.string)
theorem RowT.len {w : World} {g cap n : Nat} {l : List ByteArray} (h : RowT w g cap n l) : n = l.length := by
  have := h.1; simpa using this.symm
theorem RowT.cellAt {w : World} {g cap n : Nat} {l : List ByteArray} (h : RowT w g cap n l) (i : Nat) (x : ByteArray) (hx : l[i]? = some x) : w.cell? ⟨g, i, none⟩ = some (.string x) := by
  have hi := (List.getElem?_eq_some_iff.1 hx).1
  have h2 := (World.ownsRow.cellAt h i (by rw [h.len]; omega)).trans (show (l.map Value.string)[i]? = some (.string x) by simp [hx])
  exact h2
theorem RowT.cap {w : World} {g cap n : Nat} {l : List ByteArray} (h : RowT w g cap n l) : n ≤ cap := by
  rcases h.2 with ⟨h, _⟩ | ⟨_, _, _, h, _, _, h2, _⟩
  · cases h
  · cases h; exact h2
theorem RowT.lt {w : World} {g cap n : Nat} {l : List ByteArray} (h : RowT w g cap n l) : g < w.heap.size := by
  rcases h.2 with ⟨h, _⟩ | ⟨_, _, _, h, _, h2, _⟩
  · cases h
  · cases h; exact heap_lt h2
theorem RowT.alloc {w : World} {g cap n : Nat} {l : List ByteArray} (h : RowT w g cap n l) (o : Obj) : RowT (w.alloc o) g cap n l := World.ownsRow.alloc h o
theorem RowT.chg {F : Nat → Prop} {w w' : World} {g cap n : Nat} {l : List ByteArray} (h : RowT w g cap n l) (hc : Chg F w w') (hg : ¬ F g) : RowT w' g cap n l := by
  rcases h.2 with ⟨h, _⟩ | ⟨_, _, cur, e, hb, h2, h3⟩
  · cases h
  · cases e; exact ⟨h.1, .inr ⟨g, _, cur, rfl, hb, hc.obj h2 hg, h3⟩⟩

/-- 'append(empty, l[:m]..)' into a row with a block: a row with a block. -/
theorem wpList_append_rest {w : World} {ops : Array Oper} {rest : List Oper} {o : Oper} {a : Act} {Q : Exit → Act → World → Prop} (hgd : o.guard = none) (s x : Operand)
    (ho : o.op = .call { callee := .builtin .append, args := #[s, x], argTypes := #[22, 22] })
    {g0 : Nat} (hown : RowT w g0 0 0 []) (hs : a.eval s = .slice (some ⟨g0, 0, none⟩) 0 0)
    {g c m n cap : Nat} (hx : a.eval x = .slice (some ⟨g, 0, none⟩) m c) {l r : List ByteArray} (hl : RowT w g cap n l) (hr : l.take m = r) (hm : m = r.length) (hm2 : m ≤ 1000)
    (h : ∀ g1 cap1 w', RowT w' g1 cap1 m r → Chg (fun k => k = g0) w w' → (g1 = g0 ∨ w.heap.size ≤ g1) → wpList Tryz.prog ops Q rest (a.put o.dst (.slice (some ⟨g1, 0, none⟩) m cap1)) w') : wpList Tryz.prog ops Q (o :: rest) a w := by
  by_cases h0 : m = 0
  · subst h0
    refine wpList_plain hgd fun _ hK => ?_
    obtain ⟨i, z, hi, hz, h2, h3, h4, _⟩ := elStrM.info
    have hrun := run_append_nothing (P := Tryz.prog) w 22 22 o.type 9 i elStrM.ht hi (some ⟨g0, 0, none⟩) 0 0 (Nat.le_refl _) (.slice (some ⟨g, 0, none⟩) 0 c) (by rw [h2]; exact Src.ofSlice w elStrM.ht ⟨g, 0, none⟩ 0 c [] (by simp) (by simp) (by simp))
    unfold Oper.wp execOp
    simp only [ho, resolve, invoke, builtin, Sem.run_bind, Sem.run_pure, Result.andThen_ok, List.map_toArray, List.map_cons, List.map_nil, hs, hx, hrun]
    obtain rfl : r = [] := List.eq_nil_of_length_eq_zero hm.symm
    exact hK _ _ (h g0 0 w hown (Chg.refl _ w) (.inl rfl))
  · refine wpList_append_lies hgd s x 22 ho elStrM hown hs ⟨g, 0, none⟩ m c (r.map Value.string) hx (by simp [hm]) (by subst hr; exact news_take (cap := cap) (n := n) hl hl.len m) (by simp [Value.oneCell']) (by unfold maxLen; omega) (by omega) ?_
    intro v' w' h1 h2 h3
    rw [Nat.zero_add] at h1
    obtain ⟨g1, cap1, rfl, _⟩ := owns_some h1 (by omega)
    exact h g1 cap1 w' h1 (h2.mono (fun k _ hk => by simpa [Value.ownBlock, eq_comm] using hk)) (by simpa [Value.ownBlock, eq_comm] using h3 g1 (by simp [Value.ownBlock]))

theorem frev_one (y : ByteArray) (h : y.size = 1) : revS y = y := by
  obtain ⟨x, hx⟩ := Array.size_eq_one_iff.1 (show y.data.size = 1 from h)
  apply ByteArray.ext
  show y.data.reverse = y.data
  rw [hx]
  rfl
theorem frev_append (x y : ByteArray) : revS (x ++ y) = revS y ++ revS x := by
  apply ByteArray.ext
  show (x ++ y).data.reverse = (revS y ++ revS x).data
  rw [ByteArray.data_append, ByteArray.data_append, Array.reverse_append]
  rfl
theorem frev_next (a : ByteArray) (k : Nat) (hk : k < a.size) : revS (a.extract 0 (k + 1)) = a.extract k (k + 1) ++ revS (a.extract 0 k) := by
  have h1 : a.extract 0 k ++ a.extract k (k + 1) = a.extract 0 (k + 1) := by
    rw [ByteArray.extract_append_extract]
    congr 1 <;> omega
  rw [← h1, frev_append, frev_one (a.extract k (k + 1)) (by rw [ByteArray.size_extract]; omega)]
theorem frev_all (a : ByteArray) : revS (a.extract 0 a.size) = revS a := by rw [ByteArray.extract_zero_size]
theorem decS_digs (n : Nat) (h : n ≤ 512) : (decS n).size ≤ 512 := by
  by_cases h10 : n < 10
  · have := decS_size n; omega
  · rw [decS_big n h10, ByteArray.size_append, ByteArray.size_extract]
    have := decS_size (n / 10)
    omega

/-- What a step leaves: a stack of its own, where it goes on. -/
def StepOk (w : World) (l : List ByteArray) (to2 : Int) (e : Ending) (w' : World) : Prop :=
  ∃ g cap, e = .returned (.tuple #[.slice (some ⟨g, 0, none⟩) l.length cap, .int .i64 to2, .int .i64 0]) ∧ RowT w' g cap l.length l ∧ Chg (fun _ => False) w w'

/-- A row laid since w0. -/
structure Fresh (w0 w : World) (g cap n : Nat) (l : List ByteArray) : Prop where
  own : RowT w g cap n l
  chg : Chg (fun k => w0.heap.size ≤ k) w0 w
  ge : w0.heap.size ≤ g
theorem Fresh.cell {w0 w : World} {g cap n : Nat} {l : List ByteArray} (h : Fresh w0 w g cap n l) {p : Addr} {v : Value} (hc : w0.cell? p = some v) (hp : ¬ w0.heap.size ≤ p.block) : w.cell? p = some v := h.chg.cell hc hp
theorem Fresh.move {w0 w w' : World} {g cap n : Nat} {l : List ByteArray} (h : Fresh w0 w g cap n l) (hc : Chg (fun _ => False) w w') : Fresh w0 w' g cap n l :=
  ⟨h.own.chg hc (fun h => h), h.chg.trans hc (fun _ _ h => h.elim), h.ge⟩
theorem Fresh.moveN {w0 w w' : World} {g cap n : Nat} {l : List ByteArray} (h : Fresh w0 w g cap n l) {m : Nat} (hc : w' = w.drewN m) : Fresh w0 w' g cap n l := by
  subst hc; exact h.move ((Chg.refl _ w).drewN m)
theorem fresh_chg {w w' : World} (h : Chg (fun k => w.heap.size ≤ k) w w') : Chg (fun _ => False) w w' := (Chg.refl _ w).trans h (fun i hi h => by omega)
theorem Fresh.ok {w0 w : World} {g cap n : Nat} {l : List ByteArray} (h : Fresh w0 w g cap n l) (to2 : Int) : StepOk w0 l to2 (.returned (.tuple #[.slice (some ⟨g, 0, none⟩) n cap, .int .i64 to2, .int .i64 0])) w := by
  have hl := h.own.len
  subst hl
  exact ⟨g, cap, rfl, h.own, fresh_chg h.chg⟩

theorem wpList_fresh_rest {w : World} {ops : Array Oper} {rest : List Oper} {o : Oper} {a : Act} {Q : Exit → Act → World → Prop} (hgd : o.guard = none) (s x : Operand)
    (ho : o.op = .call { callee := .builtin .append, args := #[s, x], argTypes := #[22, 22] })
    {g c m n cap : Nat} {l r : List ByteArray} (hl : RowT w g cap n l) (hs : a.eval s = .slice (some ⟨w.heap.size, 0, none⟩) 0 0)
    (hx : a.eval x = .slice (some ⟨g, 0, none⟩) m c) (hr : l.take m = r) (hm : m = r.length) (hm2 : m ≤ 1000)
    (h : ∀ g1 cap1 w', Fresh w w' g1 cap1 m r → wpList Tryz.prog ops Q rest (a.put o.dst (.slice (some ⟨g1, 0, none⟩) m cap1)) w') : wpList Tryz.prog ops Q (o :: rest) a (w.alloc (.cells #[] 9)) := by
  refine wpList_append_rest hgd s x ho (owns_emptyM w 9 1) hs hx (hl.alloc _) hr hm hm2 ?_
  intro g1 cap1 w' h1 h2 h3
  refine h g1 cap1 w' ⟨h1, ((Chg.refl _ w).alloc _).trans h2 (fun i _ hi => Nat.le_of_eq hi.symm), ?_⟩
  rcases h3 with h3 | h3
  · omega
  · simp at h3; omega

theorem wpList_fresh_new {w0 w : World} {ops : Array Oper} {rest : List Oper} {o : Oper} {a : Act} {Q : Exit → Act → World → Prop} (hgd : o.guard = none) (s x : Operand)
    (ho : o.op = .call { callee := .builtin .append, args := #[s, x], argTypes := #[22, 22] })
    {g cap n : Nat} {l : List ByteArray} (hf : Fresh w0 w g cap n l) (hn : n ≤ 1000) (hs : a.eval s = .slice (some ⟨g, 0, none⟩) n cap)
    {c : Nat} (y : ByteArray) (hx : a.eval x = .slice (some ⟨w.heap.size, 0, none⟩) 1 c)
    (h : ∀ g1 cap1 w', Fresh w0 w' g1 cap1 (n + 1) (l ++ [y]) → wpList Tryz.prog ops Q rest (a.put o.dst (.slice (some ⟨g1, 0, none⟩) (n + 1) cap1)) w') : wpList Tryz.prog ops Q (o :: rest) a (w.alloc (.cells #[.string y] 9)) := by
  refine wpList_append_new hgd s x 22 ho elStrM hf.own hs _ 1 c hx rfl rfl (by unfold maxLen; omega) (by omega) (by decide) ?_
  intro g1 cap1 w' h1 h2 h3
  have hge : w0.heap.size ≤ g1 := by
    rcases h3 with h3 | h3
    · simp [Value.ownBlock] at h3; have := hf.ge; omega
    · have := hf.chg.size; omega
  refine h g1 cap1 w' ⟨?_, hf.chg.trans h2 (fun i _ hi => ?_), hge⟩
  · unfold RowT; rw [List.map_append]; exact h1
  · simp [Value.ownBlock] at hi; have := hf.ge; omega
end Go.Proofs.YthglfmacjoecgaaGreatDoor
