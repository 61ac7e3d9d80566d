/- The evaluator is sound: quiet operations, strings, tables, slices. -/
import Derived.Test.YtijiggolphppbaaGreatDoorEa
import Derived.Laws.Tables
import Derived.Laws.Strings
import Derived.Lib.UnsafeStr
import Derived.Laws.IdiomStrings
import Derived.Lib.Builder
namespace Go.Proofs.YtijiggolphppbaaGreatDoor.Ev
open Go
section
variable {P : Program}
theorem run_store_one {w : World} {a : Addr} {v x : Value} (hc : w.cell? a = some x) (hf : w.frozen? a = false) (h1 : v.oneCell = true) : (Go.store a v).run P w = .ok () (w.setCell a v) := by
  unfold Go.store
  cases v <;> first | (simp [Sem.run, hc, hf]; done) | cases h1
theorem run_storeCells_over (b o : Nat) (ty : TypeId) (lo hi : Nat) : ∀ (vs : List Value) (i : Nat) (w : World) (cs : Array Value), w.heap[b]? = some (.cells cs ty (lo, hi)) → o + i + vs.length ≤ cs.size →
    (∀ j, i ≤ j → j < i + vs.length → ¬ (lo ≤ o + j ∧ o + j < hi)) → (∀ v ∈ vs, v.oneCell = true) →
    ∃ w' cs', (storeCells ⟨b, o, none⟩ vs i).run P w = .ok () w' ∧ w'.heap[b]? = some (.cells cs' ty (lo, hi)) ∧ cs'.size = cs.size ∧ (∀ k, cs'[k]? = if o + i ≤ k ∧ k < o + i + vs.length then vs[k - (o + i)]? else cs[k]?) ∧
      w'.heap.size = w.heap.size ∧ (∀ k, k ≠ b → w'.heap[k]? = w.heap[k]?) ∧ w'.os = w.os ∧ w'.tape = w.tape ∧ w'.output = w.output
  | [], i, w, cs, h, _, _, _ => ⟨w, cs, rfl, h, rfl, fun k => by rw [if_neg (by simp)], rfl, fun _ _ => rfl, rfl, rfl, rfl⟩
  | v :: vs, i, w, cs, h, hs, hf, h1 => by
    simp only [List.length_cons] at hs hf
    have hadd : (⟨b, o, none⟩ : Addr).add i = ⟨b, o + i, none⟩ := by unfold Addr.add; split <;> simp_all
    have hlt : o + i < cs.size := by omega
    have hc : w.cell? ⟨b, o + i, none⟩ = some cs[o + i] := by simp [World.cell?, h, hlt]
    have hfz : w.frozen? ⟨b, o + i, none⟩ = false := by
      have := hf i (Nat.le_refl _) (by omega)
      simp [World.frozen?, h]
      omega
    have hst := run_store_one (P := P) hc hfz (h1 v (by simp))
    have hb : (w.setCell ⟨b, o + i, none⟩ v).heap[b]? = some (.cells (cs.setIfInBounds (o + i) v) ty (lo, hi)) := by
      simp [World.setCell, Array.getElem?_modify, h]
    obtain ⟨w', cs', g1, g2, g3, g4, g5, g6, g7, g8, g9⟩ := run_storeCells_over b o ty lo hi vs (i + 1) (w.setCell ⟨b, o + i, none⟩ v) (cs.setIfInBounds (o + i) v) hb (by simp; omega) (fun j hj hk => hf j (by omega) (by omega)) (fun x hx => h1 x (by simp [hx]))
    refine ⟨w', cs', ?_, g2, by rw [g3]; simp, fun k => ?_, by rw [g5]; simp [World.setCell], fun k hk => ?_, g7, g8, g9⟩
    · unfold storeCells
      rw [Sem.run_bind, hadd, hst]
      exact g1
    · rw [g4 k]
      by_cases e1 : k = o + i
      · subst e1
        rw [if_neg (by omega), if_pos (by simp)]
        simp [hlt]
      · by_cases e2 : o + (i + 1) ≤ k ∧ k < o + (i + 1) + vs.length
        · rw [if_pos e2, if_pos (by simp; omega), show k - (o + i) = (k - (o + (i + 1))) + 1 by omega]
          simp
        · rw [if_neg e2, if_neg (by simp; omega), Array.getElem?_setIfInBounds_ne (fun e => e1 e.symm)]
    · rw [g6 k hk]
      simp [World.setCell, Array.getElem?_modify]
      intro e
      exact absurd e.symm hk
variable {c : Cx} {σ σ' : St} {w : World}
/-- What a call or an operation may not touch: what lies outside of the names that are there. -/
structure Fr0 (c : Cx) (σ : St) (w w' : World) : Prop where
  os : w'.os = w.os
  tape : w'.tape = w.tape
  output : w'.output = w.output
  size : w.heap.size ≤ w'.heap.size
  block : ∀ b, b < w.heap.size → (∀ n o, c.D n → σ.heap.get n = some o → o.alive = true → (c.ρ n).1 ≠ b) → w'.heap[b]? = w.heap[b]?
theorem VRs.ones {c : Cx} : ∀ {l : List AV} {vs : List Value}, VRs c l vs → (∀ a ∈ l, a.one = true) → ∀ v ∈ vs, v.oneCell = true
  | _, _, .nil, _ => fun v hv => by cases hv
  | _, _, .cons h t, h1 => fun v hv => by
    rcases List.mem_cons.1 hv with rfl | hv
    · exact h.one (h1 _ (by simp))
    · exact VRs.ones t (fun a ha => h1 a (by simp [ha])) v hv
theorem Sim.store (h : Sim c σ w) {a : Nat × Nat} (hd : c.D a.1) {l : List AV} {vs : List Value} (hl : VRs c l vs) (h1 : ∀ x ∈ l, x.one = true) (hs : storeN σ a l = some σ') :
    ∃ w', (storeCells ⟨(c.ρ a.1).1, (c.ρ a.1).2 + a.2, none⟩ vs).run P w = .ok () w' ∧ Sim c σ' w' ∧ Fr0 c σ w w' ∧ σ'.nx = σ.nx ∧ (∀ m, m ≠ a.1 → σ'.heap.get m = σ.heap.get m) := by
  unfold storeN at hs
  cases hg : σ.heap.get a.1 with
  | none => rw [hg] at hs; cases hs
  | some o =>
    rw [hg] at hs
    cases o with
    | map m => cases hs
    | dead => cases hs
    | cells k t ty =>
      simp only at hs
      cases hb : Nat.ble (a.2 + l.length) k with
      | false => rw [hb] at hs; cases hs
      | true =>
        rw [hb] at hs
        simp only [cond_true, Option.some.injEq] at hs
        subst hs
        have hb2 : a.2 + l.length ≤ k := by simpa using hb
        obtain ⟨cs, lo, hi, g1, g2, gk, g3, g4, g5⟩ := h.cells _ _ _ _ hd hg
        have hlen := hl.len
        have hmx := MX_FU
        have hnx := h.nx _ hd
        have hmx2 := h.mx
        obtain ⟨w', cs', r1, r2, r3, r4, r5, r6, r7, r8, r9⟩ := run_storeCells_over (P := P) (c.ρ a.1).1 ((c.ρ a.1).2 + a.2) ty lo hi vs 0 w cs g1 (by omega) (fun j _ hj => by have := g4 ((c.ρ a.1).2 + a.2 + j) (by omega); omega) (hl.ones h1)
        have hget := fun m => T.get_set FU σ.heap a.1 (some (AO.cells k (cellsT FU a.2 l t) ty)) m (by omega)
        have hct := fun i => cellsT_get l a.2 t i (by omega)
        have hne : ∀ m o, c.D m → m ≠ a.1 → σ.heap.get m = some o → o.alive = true → (c.ρ m).1 ≠ (c.ρ a.1).1 := fun m o hm hn ho ha e => hn (h.inj m a.1 o _ hm hd ho hg ha rfl e)
        refine ⟨w', r1, ⟨h.nx, h.mx, fun b hb => h.top b (by omega), ?_, ?_, h.zero, ?_, ⟨by have := h.base.1; omega, fun b hb => by rw [r6 b (fun e => by have := h.far a.1 hd; omega)]; exact h.base.2 b hb⟩, h.far⟩, ⟨r7, r8, r9, by omega, fun b _ hno => r6 b (fun e => hno a.1 _ hd hg rfl e.symm)⟩, rfl, fun m hm => by show (T.set FU σ.heap a.1 _).get m = _; rw [hget, if_neg hm]⟩
        · intro m n o p hm hn ho hp ha hb3 he
          rw [hget] at ho hp
          have alive : ∀ q x, (if q = a.1 then some (AO.cells k (cellsT FU a.2 l t) ty) else σ.heap.get q) = some x → x.alive = true → ∃ y, σ.heap.get q = some y ∧ y.alive = true := by
            intro q x hq hx
            by_cases e : q = a.1
            · rw [e]; exact ⟨_, hg, rfl⟩
            · rw [if_neg e] at hq; exact ⟨x, hq, hx⟩
          obtain ⟨y, hy, hya⟩ := alive m o ho ha
          obtain ⟨z, hz, hza⟩ := alive n p hp hb3
          exact h.inj m n y z hm hn hy hz hya hza he
        · intro m k2 t2 ty2 hm ho
          rw [hget] at ho
          by_cases e1 : m = a.1
          · subst e1
            rw [if_pos rfl] at ho
            simp only [Option.some.injEq, AO.cells.injEq] at ho
            obtain ⟨rfl, rfl, rfl⟩ := ho
            refine ⟨cs', lo, hi, r2, by rw [r3]; exact g2, gk, by omega, by rw [r3]; exact g4, fun i x hi => ?_⟩
            rw [hct] at hi
            by_cases e2 : a.2 ≤ i ∧ i < a.2 + l.length
            · rw [if_pos e2] at hi
              obtain ⟨v, hv, hxv⟩ := hl.get hi
              refine ⟨by omega, v, ?_, hxv, h1 x (List.mem_of_getElem? hi)⟩
              rw [r4, if_pos (by omega), show (c.ρ a.1).2 + i - ((c.ρ a.1).2 + a.2 + 0) = i - a.2 by omega]
              exact hv
            · rw [if_neg e2] at hi
              obtain ⟨q1, v, q2, q3, q4⟩ := g5 i x hi
              refine ⟨q1, v, ?_, q3, q4⟩
              rw [r4, if_neg (by omega)]
              exact q2
          · rw [if_neg e1] at ho
            obtain ⟨cs2, lo2, hi2, q1, q2, qk, q3, q4, q5⟩ := h.cells _ _ _ _ hm ho
            exact ⟨cs2, lo2, hi2, by rw [r6 _ (hne m _ hm e1 ho rfl)]; exact q1, q2, qk, q3, q4, q5⟩
        · intro m l2 hm ho
          rw [hget] at ho
          by_cases e1 : m = a.1
          · subst e1
            rw [if_pos rfl] at ho
            cases ho
          · rw [if_neg e1] at ho
            obtain ⟨es, clock, q1, q2⟩ := h.maps _ _ hm ho
            exact ⟨es, clock, by rw [r6 _ (hne m _ hm e1 ho rfl)]; exact q1, q2⟩
end
end Go.Proofs.YtijiggolphppbaaGreatDoor.Ev
namespace Go.Proofs.YtijiggolphppbaaGreatDoor.Ev
open Go
structure Post (c c' : Cx) (σ σ' : St) (w w' : World) : Prop where
  le : c.le c'
  sim : Sim c' σ' w'
  nx : σ.nx ≤ σ'.nx
  new : ∀ n, c'.D n → c.D n ∨ σ.nx ≤ n
  old : ∀ n, n < σ.nx → ¬ c.D n → σ'.heap.get n = σ.heap.get n
  os : w'.os = w.os
  tape : w'.tape = w.tape
  output : w'.output = w.output
  size : w.heap.size ≤ w'.heap.size
  block : ∀ b, b < w.heap.size → (∀ n o, c.D n → σ.heap.get n = some o → o.alive = true → (c.ρ n).1 ≠ b) → w'.heap[b]? = w.heap[b]?
  blk : ∀ n o, c'.D n → σ'.heap.get n = some o → o.alive = true → w.heap.size ≤ (c'.ρ n).1 ∨ ∃ m p, c.D m ∧ σ.heap.get m = some p ∧ p.alive = true ∧ (c.ρ m).1 = (c'.ρ n).1
section
variable {P : Program} {c c1 c2 : Cx} {σ σ1 σ2 : St} {w w1 w2 : World}
theorem Post.refl (h : Sim c σ w) : Post c c σ σ w w :=
  ⟨.refl c, h, Nat.le_refl _, fun _ h => .inl h, fun _ _ _ => rfl, rfl, rfl, rfl, Nat.le_refl _, fun _ _ _ => rfl, fun n o hd ho ha => .inr ⟨n, o, hd, ho, ha, rfl⟩⟩
theorem Post.trans (h : Post c c1 σ σ1 w w1) (k : Post c1 c2 σ1 σ2 w1 w2) : Post c c2 σ σ2 w w2 where
  le := h.le.trans k.le
  sim := k.sim
  nx := Nat.le_trans h.nx k.nx
  new n hn := by
    rcases k.new n hn with h1 | h1
    · exact h.new n h1
    · exact .inr (Nat.le_trans h.nx h1)
  old n hn hd := by
    rw [k.old n (Nat.lt_of_lt_of_le hn h.nx) (fun hd1 => by
      rcases h.new n hd1 with h1 | h1
      · exact hd h1
      · omega)]
    exact h.old n hn hd
  os := k.os.trans h.os
  tape := k.tape.trans h.tape
  output := k.output.trans h.output
  size := Nat.le_trans h.size k.size
  block b hb hno := by
    rw [k.block b (Nat.lt_of_lt_of_le hb h.size) (fun n o hd ho ha e => by
      rcases h.blk n o hd ho ha with h1 | ⟨m, p, h1, h2, h3, h4⟩
      · omega
      · exact hno m p h1 h2 h3 (h4.trans e))]
    exact h.block b hb hno
  blk n o hd ho ha := by
    rcases k.blk n o hd ho ha with h1 | ⟨m, p, h1, h2, h3, h4⟩
    · exact .inl (Nat.le_trans h.size h1)
    · rcases h.blk m p h1 h2 h3 with h5 | ⟨m2, p2, h5, h6, h7, h8⟩
      · exact .inl (by omega)
      · exact .inr ⟨m2, p2, h5, h6, h7, h8.trans h4⟩
/-- Another count of draws. -/
theorem Sim.heap (h : Sim c σ w) (e : w1.heap = w.heap) : Sim c σ w1 :=
  ⟨h.nx, h.mx, by rw [e]; exact h.top, h.inj, by rw [e]; exact h.cells, h.zero, by rw [e]; exact h.maps, by rw [e]; exact h.base, h.far⟩
theorem Post.drew (h : Sim c σ w) (k : Nat) : Post c c σ σ w { w with drawn := k } :=
  ⟨.refl c, h.heap rfl, Nat.le_refl _, fun _ h => .inl h, fun _ _ _ => rfl, rfl, rfl, rfl, Nat.le_refl _, fun _ _ _ => rfl, fun n o hd ho ha => .inr ⟨n, o, hd, ho, ha, rfl⟩⟩
/-- A store's. -/
theorem Sim.storeP (h : Sim c σ w) {a : Nat × Nat} (hd : c.D a.1) {l : List AV} {vs : List Value} (hl : VRs c l vs) (h1 : ∀ x ∈ l, x.one = true) (hs : storeN σ a l = some σ1) :
    ∃ w', (storeCells ⟨(c.ρ a.1).1, (c.ρ a.1).2 + a.2, none⟩ vs).run P w = .ok () w' ∧ Post c c σ σ1 w w' := by
  obtain ⟨w', r1, r2, r3, r4, r5⟩ := h.store (P := P) hd hl h1 hs
  have hg : ∃ o, σ.heap.get a.1 = some o ∧ o.alive = true := by
    unfold storeN at hs
    cases hg : σ.heap.get a.1 with
    | none => rw [hg] at hs; cases hs
    | some o =>
      rw [hg] at hs
      cases o with
      | cells k t ty => exact ⟨_, rfl, rfl⟩
      | map m => exact ⟨_, rfl, rfl⟩
      | dead => cases hs
  refine ⟨w', r1, ⟨.refl c, r2, Nat.le_of_eq r4.symm, fun _ h => .inl h, fun n _ hn => r5 n (fun e => hn (e ▸ hd)), r3.os, r3.tape, r3.output, r3.size, r3.block, fun n o hn ho ha => .inr ?_⟩⟩
  by_cases e : n = a.1
  · obtain ⟨o2, h2, h3⟩ := hg
    exact ⟨a.1, o2, hd, h2, h3, by rw [e]⟩
  · rw [r5 n e] at ho
    exact ⟨n, o, hn, ho, ha, rfl⟩
theorem kill_get (h : Sim c σ w) {b : Nat} (hd : c.D b) (m : Nat) : (kill σ b).heap.get m = if m = b then some .dead else σ.heap.get m := by
  have h1 := h.nx b hd
  have h2 := h.mx
  have h3 := MX_FU
  exact T.get_set FU σ.heap b (some .dead) m (by omega)
/-- A name is let go. -/
theorem Sim.kill (h : Sim c σ w) {b : Nat} {o : AO} (hd : c.D b) (ho : σ.heap.get b = some o) (ha : o.alive = true) (hs : w1.heap.size = w.heap.size) (hk : ∀ k, k ≠ (c.ρ b).1 → w1.heap[k]? = w.heap[k]?) : Sim c (kill σ b) w1 := by
  have hg := kill_get h hd
  have hne : ∀ m p, c.D m → m ≠ b → σ.heap.get m = some p → p.alive = true → (c.ρ m).1 ≠ (c.ρ b).1 := fun m p hm hn hp hpa e => hn (h.inj m b p o hm hd hp ho hpa ha e)
  refine ⟨h.nx, h.mx, by rw [hs]; exact h.top, ?_, ?_, h.zero, ?_, ⟨by rw [hs]; exact h.base.1, fun x hx => by rw [hk x (fun e => by have := h.far b hd; omega)]; exact h.base.2 x hx⟩, h.far⟩
  · intro m n p q hm hn hp hq hpa hqa he
    rw [hg] at hp hq
    by_cases e1 : m = b
    · rw [if_pos e1] at hp; cases hp; cases hpa
    · by_cases e2 : n = b
      · rw [if_pos e2] at hq; cases hq; cases hqa
      · rw [if_neg e1] at hp
        rw [if_neg e2] at hq
        exact h.inj m n p q hm hn hp hq hpa hqa he
  · intro m k t ty hm hp
    rw [hg] at hp
    by_cases e1 : m = b
    · rw [if_pos e1] at hp; cases hp
    · rw [if_neg e1] at hp
      obtain ⟨cs, lo, hi, q1, q2⟩ := h.cells _ _ _ _ hm hp
      exact ⟨cs, lo, hi, by rw [hk _ (hne m _ hm e1 hp rfl)]; exact q1, q2⟩
  · intro m l hm hp
    rw [hg] at hp
    by_cases e1 : m = b
    · rw [if_pos e1] at hp; cases hp
    · rw [if_neg e1] at hp
      obtain ⟨es, clock, q1, q2⟩ := h.maps _ _ hm hp
      exact ⟨es, clock, by rw [hk _ (hne m _ hm e1 hp rfl)]; exact q1, q2⟩
theorem Sim.killP (h : Sim c σ w) {b : Nat} {o : AO} (hd : c.D b) (ho : σ.heap.get b = some o) (ha : o.alive = true) (hs : w1.heap.size = w.heap.size) (hk : ∀ k, k ≠ (c.ρ b).1 → w1.heap[k]? = w.heap[k]?)
    (hos : w1.os = w.os) (ht : w1.tape = w.tape) (hout : w1.output = w.output) : Post c c σ (Go.Proofs.YtijiggolphppbaaGreatDoor.Ev.kill σ b) w w1 := by
  have hg := kill_get h hd
  refine ⟨.refl c, h.kill hd ho ha hs hk, Nat.le_refl _, fun _ h => .inl h, fun n _ hn => by
    have e : n ≠ b := fun e => hn (by rw [e]; exact hd)
    rw [hg, if_neg e], hos, ht, hout, Nat.le_of_eq hs.symm, fun b2 _ hno => hk b2 (fun e => hno b o hd ho ha e.symm), fun n p hn hp hpa => .inr ?_⟩
  rw [hg] at hp
  by_cases e : n = b
  · rw [if_pos e] at hp; cases hp; cases hpa
  · rw [if_neg e] at hp
    exact ⟨n, p, hn, hp, hpa, rfl⟩
/-- A new block under a new name. -/
theorem Sim.fresh (h : Sim c σ w) {f : Fresh} {n : Nat} (hf : newF σ f = some (n, σ1)) {o : Obj} {k : Nat} (hr : FreshR c f o k) (hw : NewW w w1 o) :
    Post c (c.more n w.heap.size 0 k) σ σ1 w w1 := by
  obtain ⟨ao, h1, rfl, h3, h4, h5, h6⟩ := newF_some hf
  have hD : ¬ c.D σ.nx := fun e => by have := h.nx _ e; omega
  have hc : Sim c σ1 w := h.congr (by omega) (by omega) (fun n hn => h6 n (fun e => hD (e ▸ hn)))
  obtain ⟨g1, g2⟩ := hc.reveal hD (by omega) h1 h5 hr hw
  refine ⟨g1, g2, by omega, fun n hn => ?_, fun n hn _ => h6 n (by omega), hw.os, hw.tape, hw.output, by rw [hw.size]; omega, fun b hb _ => by rw [hw.at, if_neg (by omega)], fun n o2 hn ho ha => ?_⟩
  · rcases hn with hn | rfl
    · exact .inl hn
    · exact .inr (Nat.le_refl _)
  · by_cases e : n = σ.nx
    · subst e
      exact .inl (by rw [Cx.more_ρ]; exact Nat.le_refl _)
    · have hn2 : c.D n := hn.resolve_right e
      rw [h6 n e] at ho
      exact .inr ⟨n, o2, hn2, ho, ha, (if_neg e : (c.more σ.nx w.heap.size 0 k).ρ n = c.ρ n) ▸ rfl⟩
end
end Go.Proofs.YtijiggolphppbaaGreatDoor.Ev
namespace Go.Proofs.YtijiggolphppbaaGreatDoor.Ev
open Go
section
variable {P : Program} {g : Prg} {c : Cx} {w : World}
theorem run_v {s : Sem Value} {v : Value} {w' : World} (h : s.run P w = .ok v w') : ((do pure (Next.value (← s))) : Sem Next).run P w = .ok (.value v) w' := by
  rw [Sem.run_bind, h]
  rfl
/- constants -/
theorem toNat_ofNat (b : UInt8) : UInt8.ofNat b.toNat = b := by
  apply UInt8.toNat_inj.1
  simp
theorem bs_back (s : ByteArray) : bsN (s.data.toList.map UInt8.toNat) = s := by
  unfold bsN
  cases s with
  | mk a =>
    congr 1
    rw [List.map_map]
    have : (UInt8.ofNat ∘ UInt8.toNat) = id := by funext b; exact toNat_ofNat b
    rw [this]
    simp
theorem ofV1_ok : ∀ {v : Value} {a : AV}, ofV1 v = some a → VR c a v
  | .bool b, a, h => by simp [ofV1] at h; subst h; exact .bool b
  | .int k n, a, h => by simp [ofV1] at h; subst h; exact .int k n
  | .string s, a, h => by
    simp only [ofV1, Option.some.injEq] at h
    subst h
    have := VR.str (c := c) (s.data.toList.map UInt8.toNat) (fun b hb => by
      obtain ⟨x, _, rfl⟩ := List.mem_map.1 hb
      exact UInt8.toNat_lt x)
    rw [bs_back] at this
    exact this
  | .pointer none, a, h => by simp [ofV1] at h; subst h; exact .ptr0
  | .pointer (some _), a, h => by simp [ofV1] at h
  | .slice none 0 0, a, h => by simp [ofV1] at h; subst h; exact .sl0 0
  | .slice none (_ + 1) _, a, h => by simp [ofV1] at h
  | .slice none 0 (_ + 1), a, h => by simp [ofV1] at h
  | .slice (some _) _ _, a, h => by simp [ofV1] at h
  | .map none, a, h => by simp [ofV1] at h; subst h; exact .mp0
  | .map (some _), a, h => by simp [ofV1] at h
  | .nilFunc, a, h => by simp [ofV1] at h; subst h; exact .nilFn
  | .nilIface, a, h => by simp [ofV1] at h; subst h; exact .nilI
  | .float .., a, h => by simp [ofV1] at h
  | .complex .., a, h => by simp [ofV1] at h
  | .chan .., a, h => by simp [ofV1] at h
  | .func .., a, h => by simp [ofV1] at h
  | .iface .., a, h => by simp [ofV1] at h
  | .agg .., a, h => by simp [ofV1] at h
  | .tuple .., a, h => by simp [ofV1] at h
theorem ofVs_ok : ∀ {vs : List Value} {l : List AV}, ofVs vs = some l → VRs c l vs
  | [], l, h => by simp [ofVs] at h; subst h; exact .nil
  | v :: vs, l, h => by
    simp only [ofVs, bnd_eq] at h
    obtain ⟨a, ha, r, hr, h⟩ := h
    simp only [Option.some.injEq] at h
    subst h
    exact .cons (ofV1_ok ha) (ofVs_ok hr)
theorem ofV_ok {v : Value} {a : AV} (h : ofV v = some a) : VR c a v := by
  cases v
  case agg cs =>
    simp only [ofV, bnd_eq] at h
    obtain ⟨l, hl, h⟩ := h
    simp only [Option.some.injEq] at h
    subst h
    have := VR.agg (ofVs_ok (c := c) hl)
    simpa using this
  case tuple cs =>
    simp only [ofV, bnd_eq] at h
    obtain ⟨l, hl, h⟩ := h
    simp only [Option.some.injEq] at h
    subst h
    have := VR.tup (ofVs_ok (c := c) hl)
    simpa using this
  all_goals exact ofV1_ok h
/- what operands give -/
def ERel (c : Cx) (E : Operand → Option AV) (ρ : Operand → Value) (xs : List Operand) : Prop := ∀ x ∈ xs, ∀ v, E x = some v → VR c v (ρ x)
variable {E : Operand → Option AV} {ρ : Operand → Value}
theorem evalOs_ok : ∀ {xs : List Operand} {l : List AV}, ERel c E ρ xs → evalOs E xs = some l → VRs c l (xs.map ρ)
  | [], l, _, h => by simp [evalOs] at h; subst h; exact .nil
  | x :: xs, l, hE, h => by
    simp only [evalOs, bnd_eq] at h
    obtain ⟨a, ha, r, hr, h⟩ := h
    simp only [Option.some.injEq] at h
    subst h
    exact .cons (hE x (by simp) a ha) (evalOs_ok (fun y hy => hE y (by simp [hy])) hr)
/-- Parts with their places. -/
inductive VRp (c : Cx) : List (Nat × AV) → List (Nat × Value) → Prop
  | nil : VRp c [] []
  | cons {i : Nat} {a : AV} {v : Value} {l : List (Nat × AV)} {m : List (Nat × Value)} (h : VR c a v) (t : VRp c l m) : VRp c ((i, a) :: l) ((i, v) :: m)
theorem evalPs_ok : ∀ {xs : List (Nat × Operand)} {l : List (Nat × AV)}, ERel c E ρ (xs.map (·.2)) → evalPs E xs = some l → VRp c l (xs.map fun p => (p.1, ρ p.2))
  | [], l, _, h => by simp [evalPs] at h; subst h; exact .nil
  | (i, x) :: xs, l, hE, h => by
    simp only [evalPs, bnd_eq] at h
    obtain ⟨a, ha, r, hr, h⟩ := h
    simp only [Option.some.injEq] at h
    subst h
    exact .cons (hE x (by simp) a ha) (evalPs_ok (fun y hy => hE y (by simp at hy ⊢; exact .inr hy)) hr)
/- parts set -/
theorem setAt_len {α : Type} : ∀ (l : List α) (n : Nat) (vs : List α), (setAt l n vs).length = l.length
  | l, _, [] => by cases l <;> rfl
  | [], n, v :: vs => by cases n <;> rfl
  | x :: l, 0, v :: vs => by simp [setAt, setAt_len l 0 vs]
  | x :: l, n + 1, v :: vs => by simp [setAt, setAt_len l n (v :: vs)]
theorem setAt_set {α : Type} : ∀ (l : List α) (n : Nat) (v : α) (vs : List α), setAt l n (v :: vs) = setAt (l.set n v) (n + 1) vs
  | [], n, v, vs => by cases n <;> cases vs <;> rfl
  | x :: l, 0, v, vs => by cases vs <;> simp [setAt]
  | x :: l, n + 1, v, vs => by
    cases vs with
    | nil => simp [setAt, setAt_set l n v []]
    | cons u us => simp [setAt, setAt_set l n v (u :: us)]
theorem fold_set (off : Nat) : ∀ (us : List Value) (k : Nat) (cs : Array Value), ((us.zipIdx k).foldl (fun cs (p : Value × Nat) => cs.setIfInBounds (off + p.2) p.1) cs).toList = setAt cs.toList (off + k) us
  | [], k, cs => by simp [setAt]
  | u :: us, k, cs => by
    rw [List.zipIdx_cons, List.foldl_cons, fold_set off us (k + 1), setAt_set]
    simp [Nat.add_assoc]
theorem VRs.setAt : ∀ {l : List AV} {cs : List Value} {n : Nat} {vs : List AV} {us : List Value}, VRs c l cs → VRs c vs us → VRs c (Go.Proofs.YtijiggolphppbaaGreatDoor.Ev.setAt l n vs) (Go.Proofs.YtijiggolphppbaaGreatDoor.Ev.setAt cs n us)
  | _, _, n, _, _, h, .nil => by cases h <;> cases n <;> simp [Go.Proofs.YtijiggolphppbaaGreatDoor.Ev.setAt] <;> first | exact .nil | (constructor <;> assumption)
  | _, _, n, _, _, .nil, .cons _ _ => by cases n <;> exact .nil
  | _, _, 0, _, _, .cons h t, .cons k s => .cons k (VRs.setAt t s)
  | _, _, n + 1, _, _, .cons h t, .cons k s => .cons h (VRs.setAt t (.cons k s))
theorem places_ok : ∀ (l : List Field), (∀ f ∈ l, ∃ i, P.info? f.type = some i) → ∃ places, l.mapM (fun f => (P.info? f.type).map fun i => (f.offset, i.size)) = some places ∧ ∀ (j : Nat) (f : Field), l[j]? = some f → ∃ it, P.info? f.type = some it ∧ places[j]? = some (f.offset, it.size)
  | [], _ => ⟨[], by simp, fun j f h => by simp at h⟩
  | f :: l, h => by
    obtain ⟨ps, h1, h2⟩ := places_ok l (fun x hx => h x (by simp [hx]))
    obtain ⟨it, hi⟩ := h f (by simp)
    refine ⟨(f.offset, it.size) :: ps, by simp [List.mapM_cons, hi, h1], fun j x hx => ?_⟩
    cases j with
    | zero => simp at hx; subst hx; exact ⟨it, hi, rfl⟩
    | succ j => simpa using h2 j x (by simpa using hx)
theorem fill_ok {place place' : Nat → Option (Nat × Nat)} (hpp : ∀ i p, place i = some p → place' i = some p) : ∀ {ps : List (Nat × AV)} {us : List (Nat × Value)} {l l' : List AV} {cs : Array Value}, VRp c ps us → VRs c l cs.toList → fillR place l ps = some l' →
    ∃ cs', Instr.fill place' cs us = some cs' ∧ VRs c l' cs'.toList
  | [], _, l, l', cs, .nil, hl, h => by
    simp only [fillR, Option.some.injEq] at h
    subst h
    exact ⟨cs, rfl, hl⟩
  | (i, a) :: ps, _, l, l', cs, .cons (v := v) hv t, hl, h => by
    simp only [fillR, bnd_eq, bif_eq, Bool.and_eq_true, beq_eq, ble_eq] at h
    obtain ⟨p, hp, ⟨h1, h2⟩, h3⟩ := h
    have hc := hv.cells
    have hlen := hc.len
    have hl2 := hl.len
    simp only [Array.length_toList] at hlen hl2
    have hn : VRs c (Go.Proofs.YtijiggolphppbaaGreatDoor.Ev.setAt l p.1 a.cells) (v.cells.zipIdx.foldl (fun cs (x : Value × Nat) => cs.setIfInBounds (p.1 + x.2) x.1) cs).toList := by
      rw [← Array.foldl_toList, Array.toList_zipIdx, fold_set p.1 v.cells.toList 0 cs]
      exact hl.setAt hc
    obtain ⟨cs', g1, g2⟩ := fill_ok hpp t hn h3
    refine ⟨cs', ?_, g2⟩
    obtain ⟨off, size⟩ := p
    simp only [Instr.fill, hpp _ _ hp]
    rw [if_neg (by simp only [ne_eq, Bool.or_eq_true, decide_eq_true_eq, not_or, Decidable.not_not]; simp only at h1 h2; constructor <;> omega)]
    exact g1
/-- A part of an aggregate. -/
theorem part_ok (hT : TysR P g) {t : TypeId} {u : Ty} (hu : g.ty t = some u) {l : List AV} {cs : Array Value} (hl : VRs c l cs.toList) {off : Nat} {v : AV} (h : partR u l off = some v) :
    ∃ v', (part t cs off).run P w = .ok v' w ∧ VR c v v' := by
  obtain ⟨d, h1, h2, h3⟩ := (hT t u hu).und
  obtain ⟨i, z, h4, h5, _⟩ := (hT t u hu).info
  unfold partR at h
  cases ho : u.one with
  | true =>
    rw [ho] at h h3
    simp only [cond_true] at h
    obtain ⟨x, hx, hv⟩ := hl.get h
    refine ⟨x, ?_, hv⟩
    have hx' : cs[off]? = some x := by simpa using hx
    cases d <;> simp [TypeDesc.isRow] at h3 <;> simp [part, isAgg, run_underlying h1, hx']
  | false =>
    rw [ho] at h h3
    simp only [cond_false, bif_eq, ble_eq, Option.some.injEq] at h
    obtain ⟨hle, rfl⟩ := h
    have hd : VRs c ((l.drop off).take u.size) (cs.extract off (off + u.size)).toList := by
      have key : ∀ (n : Nat) {l : List AV} {m : List Value}, VRs c l m → VRs c (l.drop n) (m.drop n) := by
        intro n
        induction n with
        | zero => intro l m h; exact h
        | succ n ih => intro l m h; cases h with
          | nil => exact .nil
          | cons _ t => exact ih t
      have key2 : ∀ (n : Nat) {l : List AV} {m : List Value}, VRs c l m → VRs c (l.take n) (m.take n) := by
        intro n
        induction n with
        | zero => intro l m h; simp; exact .nil
        | succ n ih => intro l m h; cases h with
          | nil => exact .nil
          | cons h t => exact .cons h (ih t)
      have := key2 u.size (key off hl)
      rw [Array.toList_extract]
      simpa [List.extract_eq_take_drop] using this
    have ha : VR c (.agg ((l.drop off).take u.size)) (.agg (cs.extract off (off + u.size))) := by
      have h0 := VR.agg hd
      rw [Array.toArray_toList] at h0
      exact h0
    refine ⟨.agg (cs.extract off (off + u.size)), ?_, ha⟩
    cases d <;> simp [TypeDesc.isRow] at h3 <;> simp [part, isAgg, run_underlying h1, sizeOf, typeInfo, h4, h5]
end
end Go.Proofs.YtijiggolphppbaaGreatDoor.Ev
namespace Go.Proofs.YtijiggolphppbaaGreatDoor.Ev
open Go
section
variable {P : Program} {g : Prg} {c : Cx} {w : World}
theorem bsN_append (s u : List Nat) : bsN s ++ bsN u = bsN (s ++ u) := by
  have : (bsN s ++ bsN u).data = (bsN (s ++ u)).data := by
    rw [ByteArray.data_append]
    simp [bsN]
  cases h1 : bsN s ++ bsN u
  cases h2 : bsN (s ++ u)
  rw [h1, h2] at this
  simp only at this
  rw [this]
theorem bsN_toList (s : List Nat) : (bsN s).toList = s.map UInt8.ofNat := by
  rw [ByteArray.toList_eq, bsN_data]
theorem ofNat_lt {a b : Nat} (ha : a < 256) (hb : b < 256) : (UInt8.ofNat a < UInt8.ofNat b) ↔ a < b := by
  rw [UInt8.lt_iff_toNat_lt, UInt8.toNat_ofNat', UInt8.toNat_ofNat', Nat.mod_eq_of_lt ha, Nat.mod_eq_of_lt hb]
theorem ofNat_eq {a b : Nat} (ha : a < 256) (hb : b < 256) : (UInt8.ofNat a = UInt8.ofNat b) ↔ a = b := by
  rw [← UInt8.toNat_inj, UInt8.toNat_ofNat', UInt8.toNat_ofNat', Nat.mod_eq_of_lt ha, Nat.mod_eq_of_lt hb]
theorem lessL_eq : ∀ {s u : List Nat}, (∀ b ∈ s, b < 256) → (∀ b ∈ u, b < 256) → Op.bytesLess (s.map UInt8.ofNat) (u.map UInt8.ofNat) = lessL s u
  | [], [], _, _ => rfl
  | [], _ :: _, _, _ => rfl
  | _ :: _, [], _, _ => rfl
  | a :: s, b :: u, h1, h2 => by
    have ha := h1 a (by simp)
    have hb := h2 b (by simp)
    have ih := lessL_eq (s := s) (u := u) (fun x hx => h1 x (by simp [hx])) (fun x hx => h2 x (by simp [hx]))
    simp only [List.map_cons, Op.bytesLess, lessL, ih]
    congr 1
    · rw [Bool.eq_iff_iff]; simp [ofNat_lt ha hb]
    · congr 1
      rw [Bool.eq_iff_iff]; simp [ofNat_eq ha hb]
theorem eqN_map {s u : List Nat} (h1 : ∀ b ∈ s, b < 256) (h2 : ∀ b ∈ u, b < 256) : (s.map UInt8.ofNat == u.map UInt8.ofNat) = eqN s u := by
  rw [Bool.eq_iff_iff, eqN_eq, beq_iff_eq]
  exact ⟨fun h => map_ofNat_inj h1 h2 h, fun h => by rw [h]⟩
theorem binS_ok {op : BinOp} {s u : List Nat} {r : AV} (h1 : ∀ b ∈ s, b < 256) (h2 : ∀ b ∈ u, b < 256) (h : binS op s u = some r) :
    ∃ v, (Op.stringOp op (bsN s) (bsN u)).run P w = .ok v w ∧ VR c r v := by
  unfold Op.stringOp
  simp only [bsN_toList, eqN_map h1 h2, lessL_eq h1 h2, bsN_append, bsN_size]
  cases op <;> simp only [binS, Option.some.injEq, bif_eq, blt_eq] at h
  case add =>
    obtain ⟨h3, rfl⟩ := h
    have hm : (MX : Int) ≤ IntKind.i64.max := by decide
    rw [if_neg (by omega)]
    exact ⟨_, rfl, .str _ (fun b hb => by rcases List.mem_append.1 hb with hb | hb; exact h1 b hb; exact h2 b hb)⟩
  all_goals first
    | (subst h; exact ⟨_, rfl, .bool _⟩)
    | (cases h; done)
theorem toNat_emod (k : IntKind) (x : Int) : (BitVec.ofInt k.bits x).toNat = (x % (2 ^ k.bits : Nat)).toNat := by
  rw [BitVec.toNat_ofInt]
theorem bitsOf_ok {op : BinOp} {k : IntKind} {x y : Int} {r : AV} (h : bitsOf op k x y = some r) : ∃ v, (Op.intBits op k x y).run P w = .ok v w ∧ VR c r v := by
  unfold bitsOf at h
  unfold Op.intBits
  cases op <;> simp only [Option.some.injEq] at h
  case and =>
    subst h
    refine ⟨_, rfl, ?_⟩
    rw [BitVec.toNat_and, toNat_emod, toNat_emod]
    exact .int _ _
  case or =>
    subst h
    refine ⟨_, rfl, ?_⟩
    rw [BitVec.toNat_or, toNat_emod, toNat_emod]
    exact .int _ _
  case xor =>
    subst h
    refine ⟨_, rfl, ?_⟩
    rw [BitVec.toNat_xor, toNat_emod, toNat_emod]
    exact .int _ _
  case andNot =>
    subst h
    refine ⟨_, rfl, ?_⟩
    rw [BitVec.toNat_and, BitVec.toNat_not, toNat_emod, toNat_emod]
    exact .int _ _
  all_goals cases h
theorem binI_ok {op : BinOp} {t : TypeId} {k : IntKind} {a b : Int} {r : AV} (h : binI op k a b = some r) : ∃ v, (binOp op t (.int k a) (.int k b)).run P w = .ok v w ∧ VR c r v := by
  cases op <;> simp only [binI, Option.some.injEq, bif_eq', eqI_beq] at h
  case quo =>
    obtain ⟨hb, rfl⟩ := h
    have : ¬ b = 0 := by simpa using hb
    exact ⟨_, by simp [binOp, Op.intDiv, this], .int _ _⟩
  case rem =>
    obtain ⟨hb, rfl⟩ := h
    have : ¬ b = 0 := by simpa using hb
    exact ⟨_, by simp [binOp, Op.intDiv, this], .int _ _⟩
  case and => simp only [binOp, ne_eq, not_true_eq_false, if_false]; exact bitsOf_ok h
  case or => simp only [binOp, ne_eq, not_true_eq_false, if_false]; exact bitsOf_ok h
  case xor => simp only [binOp, ne_eq, not_true_eq_false, if_false]; exact bitsOf_ok h
  case andNot => simp only [binOp, ne_eq, not_true_eq_false, if_false]; exact bitsOf_ok h
  all_goals first
    | (subst h; exact ⟨_, by simp [binOp, Op.intArith], .int _ _⟩)
    | (subst h; exact ⟨_, (by simp [binOp, Op.intCmp] <;> rfl), .bool _⟩)
    | (cases h; done)
/-- The test ahead of '=='. -/
theorem guard_ok {op : BinOp} {t : TypeId} {x y : Operand} {a b : Value} (h : (∀ l, a ≠ .agg l) ∨ (∀ l, b ≠ .agg l) ∨ P.eqGuardType P.depth t = false) (h2 : a ≠ .nilIface ∨ b ≠ .nilIface) : (eqGuard op t x y a b).run P w = .ok () w := by
  cases op <;> first
    | (simp [eqGuard]; done)
    | (rcases h with h | h | h
       · cases a <;> first | (exfalso; exact h _ rfl) | (cases b <;> simp_all [eqGuard])
       · cases b <;> first | (exfalso; exact h _ rfl) | (cases a <;> simp_all [eqGuard])
       · cases a <;> cases b <;> simp_all [eqGuard])
theorem equal_of {t : TypeId} {x y : Value} {r : Bool} (h : ∀ n, (Op.equalIn (n + 1) t x y).run P w = .ok r w) : (Op.equal t x y).run P w = .ok r w := h 9999
theorem VR.isAgg {a : AV} {v : Value} (h : VR c a v) (ha : ∀ l, a ≠ .agg l) (h1 : ∀ i, a ≠ .x i) : ∀ l, v ≠ .agg l := by
  cases h <;> simp_all
theorem eqT_ok (hT : TysR P g) {t : TypeId} {x y : AV} {vx vy : Value} {r : Bool} (hx : VR c x vx) (hy : VR c y vy) (h : eqT g t x y = some r) :
    (Op.equal t vx vy).run P w = .ok r w ∧ ((∀ l, vx ≠ .agg l) ∨ (∀ l, vy ≠ .agg l) ∨ P.eqGuardType P.depth t = false) ∧ (vx ≠ .nilIface ∨ vy ≠ .nilIface) := by
  unfold eqT at h
  rw [bnd_eq] at h
  obtain ⟨u, hu, h⟩ := h
  obtain ⟨d, h1, h2, h3⟩ := (hT t u hu).und
  have keys : ∀ l m, x = .agg l → y = .agg m → d.isRow = true → eqKey u x y = some r → (Op.equal t vx vy).run P w = .ok r w ∧ ((∀ l, vx ≠ .agg l) ∨ (∀ l, vy ≠ .agg l) ∨ P.eqGuardType P.depth t = false) ∧ (vx ≠ .nilIface ∨ vy ≠ .nilIface) := by
    intro l m e1 e2 hr h
    simp only [eqKey, bnd_eq, bif_eq, Bool.and_eq_true] at h
    obtain ⟨ks, hks, ⟨f1, f2⟩, h⟩ := h
    simp only [Option.some.injEq] at h
    have hk := (hT t u hu).key ks hks
    have kx : KV P c t ks x vx := keyOk_kv hk h1 h3 hx f1
    have ky : KV P c t ks y vy := keyOk_kv hk h1 h3 hy f2
    refine ⟨by rw [kx.equal hk ky, h], .inr (.inr hk.guard), .inl ?_⟩
    subst e1
    cases hx
    simp
  cases hd : u.und <;> rw [hd] at h h2 <;> simp only [DR] at h2
  case other => cases hx <;> cases hy <;> simp at h
  case string => cases hx <;> cases hy <;> simp at h
  case unsafePointer => cases hx <;> cases hy <;> simp at h
  case int k => cases hx <;> cases hy <;> simp at h
  case bool =>
    subst h2
    cases hx <;> cases hy <;> simp at h
    subst h
    exact ⟨equal_of fun n => by simp [Op.equalIn, run_underlying h1], .inl (by simp), .inl (by simp)⟩
  case pointer e =>
    subst h2
    cases hx <;> cases hy <;> simp at h
    case ptr0.ptr0 => subst h; exact ⟨equal_of fun n => by simp [Op.equalIn, run_underlying h1], .inl (by simp), .inl (by simp)⟩
    case ptr0.ptr => subst h; exact ⟨equal_of fun n => by simp [Op.equalIn, run_underlying h1], .inl (by simp), .inl (by simp)⟩
    case ptr.ptr0 => subst h; exact ⟨equal_of fun n => by simp [Op.equalIn, run_underlying h1], .inl (by simp), .inl (by simp)⟩
    case ptr.ptr n i hn m j hm =>
      rw [bnd_eq] at h
      obtain ⟨q, hq, h⟩ := h
      rw [bif_eq] at h
      obtain ⟨h4, h5⟩ := h
      obtain ⟨it, z, h6, h7, _⟩ := (hT e q hq).info
      simp only [Bool.and_eq_true, Bool.not_eq_true'] at h4
      obtain ⟨h8, h9⟩ := h4
      have e9 := beq_eq.1 h9
      subst e9
      simp only [Option.some.injEq] at h5
      subst h5
      have hz : it.size ≠ 0 := by
        rw [h7]
        intro e0
        rw [e0] at h8
        cases h8
      refine ⟨equal_of fun k => ?_, .inl (by simp), .inl (by simp)⟩
      have hb : Nat.beq i j = decide (i = j) := by rw [Bool.eq_iff_iff]; simp
      rw [hb]
      simp [Op.equalIn, run_underlying h1, sizeOf, typeInfo, h6, hz, sameAddr]
      try (by_cases e : i = j <;> simp [e])
  case slice e =>
    subst h2
    cases hx <;> cases hy <;> simp at h <;> subst h <;> exact ⟨equal_of fun n => by simp [Op.equalIn, run_underlying h1], .inl (by simp), .inl (by simp)⟩
  case map k e =>
    subst h2
    cases hx <;> cases hy <;> simp at h <;> subst h <;> exact ⟨equal_of fun n => by simp [Op.equalIn, run_underlying h1], .inl (by simp), .inl (by simp)⟩
  case func =>
    obtain ⟨fa, fb, fv, rfl⟩ := h2
    cases hx <;> cases hy <;> simp at h <;> subst h <;> exact ⟨equal_of fun n => by simp [Op.equalIn, run_underlying h1], .inl (by simp), .inl (by simp)⟩
  case array n e =>
    subst h2
    cases x <;> cases y <;> simp only [reduceCtorEq] at h
    exact keys _ _ rfl rfl rfl h
  case struct fs =>
    obtain ⟨gs, rfl, _⟩ := h2
    cases x <;> cases y <;> simp only [reduceCtorEq] at h
    exact keys _ _ rfl rfl rfl h
end
end Go.Proofs.YtijiggolphppbaaGreatDoor.Ev
namespace Go.Proofs.YtijiggolphppbaaGreatDoor.Ev
open Go
section
variable {P : Program} {g : Prg} {c : Cx} {w : World}
theorem eqT_x (t : TypeId) (i : Nat) (y : AV) : eqT g t (.x i) y = none := by
  unfold eqT
  cases g.ty t with
  | none => rfl
  | some u => simp only [bnd]; split <;> first | rfl | simp_all
theorem eqT_x2 (t : TypeId) (i : Nat) (x : AV) : eqT g t x (.x i) = none := by
  unfold eqT
  cases g.ty t with
  | none => rfl
  | some u => simp only [bnd]; split <;> first | rfl | simp_all
theorem bin_ok (hT : TysR P g) {op : BinOp} {xt : TypeId} {x y : Operand} {a b r : AV} {va vb : Value} (ha : VR c a va) (hb : VR c b vb) (h : binR g op xt a b = some r) :
    ∃ v, ((do eqGuard op xt x y va vb; binOp op xt va vb) : Sem Value).run P w = .ok v w ∧ VR c r v := by
  have gd : ((∀ l, va ≠ .agg l) ∨ (∀ l, vb ≠ .agg l) ∨ P.eqGuardType P.depth xt = false) → (va ≠ .nilIface ∨ vb ≠ .nilIface) → ∀ v, (binOp op xt va vb).run P w = .ok v w → ((do eqGuard op xt x y va vb; binOp op xt va vb) : Sem Value).run P w = .ok v w := by
    intro h1 h2 v hv
    rw [Sem.run_bind, guard_ok h1 h2]
    exact hv
  have sh : (op = .shl ∨ op = .shr) → ∃ v, ((do eqGuard op xt x y va vb; binOp op xt va vb) : Sem Value).run P w = .ok v w ∧ VR c r v := by
    rintro (rfl | rfl)
    all_goals
      simp only [binR] at h
      cases ha <;> cases hb <;> simp only [reduceCtorEq] at h
      rw [bif_eq'] at h
      obtain ⟨h1, h2⟩ := h
      simp only [Option.some.injEq] at h2
      subst h2
      have h3 : ¬ _ < (0 : Int) := of_decide_eq_false h1
      exact ⟨_, gd (.inl (by simp)) (.inl (by simp)) _ (by simp only [binOp, Op.shift, if_neg h3]; rfl), .int _ _⟩
  by_cases hs : op = .shl ∨ op = .shr
  · exact sh hs
  · have h2 : binM g op xt a b = some r := by
      rw [← h]
      cases op <;> first | (exfalso; exact hs (.inl rfl)) | (exfalso; exact hs (.inr rfl)) | rfl
    clear sh h
    have other : (∀ k n, a ≠ .int k n ∨ ∀ j m, b ≠ .int j m) → (∀ s, a ≠ .str s ∨ ∀ u, b ≠ .str u) → binO g op xt a b = some r → ∃ v, ((do eqGuard op xt x y va vb; binOp op xt va vb) : Sem Value).run P w = .ok v w ∧ VR c r v := by
      intro n1 n2 h
      have hbin : (op = .eql → binOp op xt va vb = (do pure (.bool (← Op.equal xt va vb)))) ∧ (op = .neq → binOp op xt va vb = (do pure (.bool (!(← Op.equal xt va vb))))) := by
        constructor <;> rintro rfl <;> cases ha <;> cases hb <;> first
          | rfl
          | (exfalso; rcases n1 _ _ with n | n; exact n rfl; exact n _ _ rfl)
          | (exfalso; rcases n2 _ with n | n; exact n rfl; exact n _ rfl)
          | (exfalso; simp only [binO, eqT_x, eqT_x2, bnd, reduceCtorEq] at h; done)
      cases op <;> simp only [binO, reduceCtorEq] at h
      · rw [bnd_eq] at h
        obtain ⟨r', h1, h2⟩ := h
        simp only [Option.some.injEq] at h2
        subst h2
        obtain ⟨g1, g2, g3⟩ := eqT_ok (w := w) hT ha hb h1
        refine ⟨.bool r', gd g2 g3 _ ?_, .bool _⟩
        rw [hbin.1 rfl, Sem.run_bind, g1]
        rfl
      · rw [bnd_eq] at h
        obtain ⟨r', h1, h2⟩ := h
        simp only [Option.some.injEq] at h2
        subst h2
        obtain ⟨g1, g2, g3⟩ := eqT_ok (w := w) hT ha hb h1
        refine ⟨.bool (!r'), gd g2 g3 _ ?_, .bool _⟩
        rw [hbin.2 rfl, Sem.run_bind, g1]
        rfl
    by_cases n1 : ∃ k n j m, a = .int k n ∧ b = .int j m
    · obtain ⟨k, n, j, m, rfl, rfl⟩ := n1
      simp only [binM, bif_eq, eqK_eq] at h2
      obtain ⟨rfl, h2⟩ := h2
      cases ha; cases hb
      obtain ⟨v, h3, h4⟩ := binI_ok (P := P) (c := c) (w := w) (t := xt) h2
      exact ⟨v, gd (.inl (by simp)) (.inl (by simp)) _ h3, h4⟩
    · by_cases n2 : ∃ s u, a = .str s ∧ b = .str u
      · obtain ⟨s, u, rfl, rfl⟩ := n2
        simp only [binM] at h2
        cases ha with
        | str _ h5 =>
          cases hb with
          | str _ h6 =>
            obtain ⟨v, h3, h4⟩ := binS_ok (P := P) (c := c) (w := w) h5 h6 h2
            refine ⟨v, gd (.inl (by simp)) (.inl (by simp)) _ ?_, h4⟩
            have : binOp op xt (.string (bsN s)) (.string (bsN u)) = Op.stringOp op (bsN s) (bsN u) := by
              cases op <;> rfl
            rw [this]
            exact h3
      · refine other (fun k n => ?_) (fun s => ?_) ?_
        · by_cases e : a = .int k n
          · exact .inr fun j m e2 => n1 ⟨k, n, j, m, e, e2⟩
          · exact .inl e
        · by_cases e : a = .str s
          · exact .inr fun u e2 => n2 ⟨s, u, e, e2⟩
          · exact .inl e
        · rw [← h2]
          cases a <;> cases b <;> first | rfl | (exfalso; exact n1 ⟨_, _, _, _, rfl, rfl⟩) | (exfalso; exact n2 ⟨_, _, rfl, rfl⟩)
end
end Go.Proofs.YtijiggolphppbaaGreatDoor.Ev
namespace Go.Proofs.YtijiggolphppbaaGreatDoor.Ev
open Go
section
variable {P : Program} {g : Prg} {c : Cx} {w : World} {E : Operand → Option AV} {ρ : Operand → Value}
theorem VRs.inv1 {a : AV} {m : List Value} (h : VRs c [a] m) : ∃ v, m = [v] ∧ VR c a v := by
  cases h with
  | cons h t => cases t; exact ⟨_, rfl, h⟩
theorem VRs.inv2 {a b : AV} {m : List Value} (h : VRs c [a, b] m) : ∃ v u, m = [v, u] ∧ VR c a v ∧ VR c b u := by
  cases h with
  | cons h t =>
    cases t with
    | cons k s => cases s; exact ⟨_, _, rfl, h, k⟩
theorem build_ok (hT : TysR P g) {ty : TypeId} {ps : Array (Nat × Operand)} {v : AV} (hE : ERel c E ρ (ps.toList.map (·.2))) (h : pureR g E (.build ty ps) = some v) :
    ∃ v', (Instr.build ty (ps.map fun (i, x) => (i, ρ x))).run P w = .ok v' w ∧ VR c v v' := by
  simp only [pureR, bnd_eq] at h
  obtain ⟨u, hu, qs, hq, h⟩ := h
  have hp := evalPs_ok hE hq
  obtain ⟨d, h1, h2, h3⟩ := (hT ty u hu).und
  obtain ⟨it, z, h4, h5, h6, h7, h8, h9, h10⟩ := (hT ty u hu).info
  have hz := h8 c
  have hl : (ps.map fun (i, x) => (i, ρ x)).toList = ps.toList.map fun p => (p.1, ρ p.2) := by simp
  have fin : ∀ cs', P.built ty (ps.toList.map fun p => (p.1, ρ p.2)) = some cs' → ∀ l', VRs c l' cs'.toList → v = .agg l' → ∃ v', (Instr.build ty (ps.map fun (i, x) => (i, ρ x))).run P w = .ok v' w ∧ VR c v v' := by
    intro cs' hb l' hl' hv
    refine ⟨.agg cs', run_build w ty _ cs' (by rw [hl]; exact hb), ?_⟩
    rw [hv]
    have := VR.agg hl'
    rw [Array.toArray_toList] at this
    exact this
  cases hd : u.und <;> rw [hd] at h h2 <;> simp only [DR, reduceCtorEq] at h h2
  case array n e =>
    simp only [bnd_eq] at h
    obtain ⟨q, hq2, l', hf, hv⟩ := h
    simp only [Option.some.injEq] at hv
    obtain ⟨ie, ze, g1, g2, _⟩ := (hT e q hq2).info
    obtain ⟨cs', k1, k2⟩ := fill_ok (place' := fun i => some (i * ie.size, ie.size)) (fun i p h => by simp only [g2]; exact h) hp hz hf
    subst h2
    exact fin cs' (by simp only [Program.built, h4, h1, h6, g1, k1]) l' k2 hv.symm
  case struct fs =>
    obtain ⟨gs, rfl, rfl⟩ := h2
    simp only [bnd_eq] at h
    obtain ⟨l', hf, hv⟩ := h
    simp only [Option.some.injEq] at hv
    obtain ⟨places, p1, p2⟩ := places_ok (P := P) gs.toList (fun f hf => (hT ty u hu).flds gs h1 f (Array.mem_toList_iff.1 hf))
    obtain ⟨cs', k1, k2⟩ := fill_ok (place' := fun i => places.toArray[i]?) (fun i p h => by
      simp only [bnd_eq] at h
      obtain ⟨x, hx, q, hq2, h⟩ := h
      simp only [Option.some.injEq] at h
      rw [List.getElem?_map] at hx
      cases hg : gs.toList[i]? with
      | none => rw [hg] at hx; cases hx
      | some f =>
        rw [hg] at hx
        simp only [Option.map_some, Option.some.injEq] at hx
        subst hx
        obtain ⟨it2, q1, q2⟩ := p2 i f hg
        obtain ⟨it3, z3, r1, r2, _⟩ := (hT f.type q hq2).info
        rw [q1] at r1
        simp only [Option.some.injEq] at r1
        subst r1
        simp only [List.getElem?_toArray, q2, ← h, r2]) hp hz hf
    exact fin cs' (by simp only [Program.built, h4, h1, h6, p1, k1]) l' k2 hv.symm
/-- Optional operands. -/
inductive ORel (c : Cx) : Option AV → Option Value → Prop
  | none : ORel c .none .none
  | some {a : AV} {v : Value} (h : VR c a v) : ORel c (.some a) (.some v)
theorem opt_ok {x : Option Operand} {r : Option AV} (hE : ERel c E ρ x.toList) (h : opt E x = some r) : ORel c r (x.map ρ) := by
  cases x with
  | none => simp [opt] at h; subst h; exact .none
  | some o =>
    simp only [opt, bnd_eq] at h
    obtain ⟨a, ha, h⟩ := h
    simp only [Option.some.injEq] at h
    subst h
    exact .some (hE o (by simp) a ha)
theorem asNat_ok {a : AV} {v : Value} {n : Nat} (hv : VR c a v) (h : asNat a = some n) : ∃ k, v = .int k (n : Int) := by
  cases hv <;> simp only [asNat, reduceCtorEq, bif_eq', Option.some.injEq] at h
  case int k i =>
    obtain ⟨h1, rfl⟩ := h
    have : ¬ i < 0 := of_decide_eq_false h1
    exact ⟨k, by congr 1; omega⟩
theorem bound_ok {k : IntKind} {n y : Nat} {code : BoundsCode} (h : n ≤ y) : (Instr.sliceBound (.int k (n : Int)) y code).run P w = .ok n w := by
  have h2 : (n : Int) ≤ (y : Int) := by omega
  simp [Instr.sliceBound, asIntOf, h2]
theorem bounds_ok {n cap : Nat} {lo hi : Option AV} {vlo vhi : Option Value} {p : Nat × Nat} {b : Bool} (hl : ORel c lo vlo) (hh : ORel c hi vhi) (hc : n ≤ cap) (h : boundsOf n lo hi = some p) :
    (Instr.sliceBounds b n cap vlo vhi none).run P w = .ok (p.1, p.2, cap) w ∧ p.1 ≤ p.2 ∧ p.2 ≤ n := by
  simp only [boundsOf, bnd_eq, bif_eq, Bool.and_eq_true, ble_eq, Option.some.injEq] at h
  obtain ⟨hi', h1, lo', h2, ⟨h3, h4⟩, rfl⟩ := h
  refine ⟨?_, h3, h4⟩
  unfold Instr.sliceBounds
  cases hl with
  | none =>
    simp only [Option.some.injEq] at h2
    subst h2
    cases hh with
    | none =>
      simp only [Option.some.injEq] at h1
      subst h1
      simp
    | some hv =>
      simp only at h1
      obtain ⟨k, rfl⟩ := asNat_ok hv h1
      have hb := bound_ok (P := P) (w := w) (k := k) (code := (if b then .sliceAcap else .sliceAlen)) (show hi' ≤ cap by omega)
      simp [hb]
  | some lv =>
    simp only at h2
    obtain ⟨kl, rfl⟩ := asNat_ok lv h2
    cases hh with
    | none =>
      simp only [Option.some.injEq] at h1
      subst h1
      have hb := bound_ok (P := P) (w := w) (k := kl) (code := .sliceB) h3
      simp [hb]
    | some hv =>
      simp only at h1
      obtain ⟨k, rfl⟩ := asNat_ok hv h1
      have hb := bound_ok (P := P) (w := w) (k := k) (code := (if b then .sliceAcap else .sliceAlen)) (show hi' ≤ cap by omega)
      have hb2 := bound_ok (P := P) (w := w) (k := kl) (code := .sliceB) h3
      simp [hb, hb2]
theorem bsN_extract (s : List Nat) (a b : Nat) : (bsN s).extract a b = bsN ((s.take b).drop a) := by
  have : ((bsN s).extract a b).data = (bsN ((s.take b).drop a)).data := by
    rw [ByteArray.data_extract]
    simp [bsN, List.extract_eq_take_drop, List.drop_take]
  cases h1 : (bsN s).extract a b
  cases h2 : bsN ((s.take b).drop a)
  rw [h1, h2] at this
  simp only at this
  rw [this]
theorem add_spot (b o n : Nat) : (⟨b, o, none⟩ : Addr).add n = ⟨b, o + n, none⟩ := by
  unfold Addr.add
  split <;> simp_all
theorem slice_ok (hT : TysR P g) {ty : TypeId} {x : Operand} {lo hi : Option Operand} {v : AV} (hE : ERel c E ρ ([x] ++ lo.toList ++ hi.toList)) (h : pureR g E (.slice ty x lo hi none) = some v) :
    ∃ v', (Instr.sliceAt ty (ρ x) (lo.map ρ) (hi.map ρ) none).run P w = .ok v' w ∧ VR c v v' := by
  simp only [pureR, bnd_eq] at h
  obtain ⟨a, ha, lo', hlo, hi', hhi, u, hu, h⟩ := h
  have va := hE x (by simp) a ha
  have vl := opt_ok (fun y hy => hE y (by simp at hy ⊢; exact .inr (.inl hy))) hlo
  have vh := opt_ok (fun y hy => hE y (by simp at hy ⊢; exact .inr (.inr hy))) hhi
  generalize ρ x = vx at va ⊢
  obtain ⟨d, h1, h2, h3⟩ := (hT ty u hu).und
  cases hd : u.und <;> rw [hd] at h h2 <;> simp only [DR, reduceCtorEq] at h h2
  case string =>
    subst h2
    cases va <;> simp only [reduceCtorEq, bnd_eq, Option.some.injEq] at h
    rename_i s hs
    obtain ⟨p, hp, rfl⟩ := h
    obtain ⟨g1, g2, g3⟩ := bounds_ok (P := P) (w := w) (b := false) vl vh (Nat.le_refl _) hp
    refine ⟨.string (bsN ((s.take p.2).drop p.1)), ?_, .str _ (fun b hb => hs b (List.mem_of_mem_take (List.mem_of_mem_drop hb)))⟩
    rw [← bsN_size] at g1
    simp [Instr.sliceAt, Instr.slice, run_underlying h1, g1, bsN_extract]
  case slice e =>
    subst h2
    cases va <;> simp only [reduceCtorEq, bnd_eq, bif_eq, Option.some.injEq, beq_eq] at h
    case sl0 es =>
      obtain ⟨q, hq, p, hp, rfl⟩ := h
      obtain ⟨g1, g2, g3⟩ := bounds_ok (P := P) (w := w) (b := true) vl vh (Nat.le_refl _) hp
      obtain ⟨it, z, k1, k2, _⟩ := (hT e q hq).info
      obtain ⟨p1, p2⟩ := p
      simp only at g1 g2 g3
      obtain rfl : p2 = 0 := by omega
      obtain rfl : p1 = 0 := by omega
      refine ⟨.slice none 0 0, ?_, .sl0 es⟩
      simp [Instr.sliceAt, Instr.slice, run_underlying h1, g1, sizeOf, typeInfo, k1]
    case sl n i len es cap off hD hc ho hL =>
      obtain ⟨q, hq, p, hp, e1, rfl⟩ := h
      obtain ⟨g1, g2, g3⟩ := bounds_ok (P := P) (w := w) (b := true) vl vh hc hp
      obtain ⟨it, z, k1, k2, _⟩ := (hT e q hq).info
      refine ⟨.slice (some (if cap = p.1 then ⟨(c.ρ n).1, off, none⟩ else ⟨(c.ρ n).1, off + p.1 * es, none⟩)) (p.2 - p.1) (cap - p.1), ?_, ?_⟩
      · simp [Instr.sliceAt, Instr.slice, run_underlying h1, g1, sizeOf, typeInfo, k1, k2, e1, add_spot]
        split <;> rfl
      · have hm : (c.ρ n).2 + (i + p.1 * es) + (cap - p.1) * es ≤ c.L (c.ρ n).1 := by
          have : p.1 * es + (cap - p.1) * es = cap * es := by rw [← Nat.add_mul]; congr 1; omega
          omega
        by_cases e : cap = p.1
        · rw [if_pos e]
          exact .sl n _ _ _ _ _ hD (by omega) (.inl (by omega)) hm
        · rw [if_neg e]
          refine .sl n _ _ _ _ _ hD (by omega) (.inr ?_) hm
          rcases ho with ho | ho
          · omega
          · omega
theorem index_ok (hT : TysR P g) {ty : TypeId} {x i : Operand} {v : AV} (hE : ERel c E ρ [x, i]) (h : pureR g E (.index ty x i) = some v) :
    ∃ v', (Instr.index ty (ρ x) (ρ i)).run P w = .ok v' w ∧ VR c v v' := by
  simp only [pureR, bnd_eq] at h
  obtain ⟨a, ha, b, hb, n, hn, u, hu, h⟩ := h
  have va := hE x (by simp) a ha
  have vb := hE i (by simp) b hb
  generalize ρ x = vx at va ⊢
  generalize ρ i = vi at vb ⊢
  obtain ⟨k, rfl⟩ := asNat_ok vb hn
  obtain ⟨d, h1, h2, h3⟩ := (hT ty u hu).und
  cases hd : u.und <;> rw [hd] at h h2 <;> simp only [DR, reduceCtorEq] at h h2
  case string =>
    subst h2
    cases va <;> simp only [reduceCtorEq, bnd_eq, Option.some.injEq] at h
    rename_i s hs
    obtain ⟨q, hq, rfl⟩ := h
    have hlt : q < 256 := hs q (List.mem_of_getElem? hq)
    have hg : (bsN s)[n]? = some (UInt8.ofNat q) := by
      have hn2 : n < s.length := (List.getElem?_eq_some_iff.1 hq).1
      have h5 : n < (bsN s).size := by rw [bsN_size]; exact hn2
      have h6 : (bsN s)[n]'h5 = UInt8.ofNat q := by
        have h7 : (s.map UInt8.ofNat)[n]? = some (UInt8.ofNat q) := by simp [hq]
        show (bsN s).data[n] = _
        simp only [bsN, List.getElem_toArray]
        exact (List.getElem?_eq_some_iff.1 h7).2
      rw [getElem?_pos (bsN s) n h5, h6]
    refine ⟨.int .u8 q, ?_, .int _ _⟩
    simp [Instr.index, asIntOf, run_underlying h1, hg]
    omega
  case array m e =>
    subst h2
    cases va <;> simp only [reduceCtorEq, bnd_eq, bif_eq, blt_eq] at h
    rename_i l cs hl
    obtain ⟨q, hq, hlt, hp⟩ := h
    obtain ⟨it, z, k1, k2, _⟩ := (hT e q hq).info
    obtain ⟨v', p1, p2⟩ := part_ok (P := P) (w := w) hT hq (cs := cs.toArray) (by simpa using hl) hp
    refine ⟨v', ?_, p2⟩
    rw [← k2] at p1
    simp [Instr.index, asIntOf, run_underlying h1, hlt, sizeOf, typeInfo, k1, p1]
theorem indexAddr_ok (hT : TysR P g) {ty : TypeId} {x i : Operand} {v : AV} (hE : ERel c E ρ [x, i]) (h : pureR g E (.indexAddr ty x i) = some v) :
    ∃ v', (Instr.indexAt ty (ρ x) (ρ i)).run P w = .ok v' w ∧ VR c v v' := by
  simp only [pureR, bnd_eq] at h
  obtain ⟨a, ha, b, hb, n, hn, u, hu, h⟩ := h
  have va := hE x (by simp) a ha
  have vb := hE i (by simp) b hb
  generalize ρ x = vx at va ⊢
  generalize ρ i = vi at vb ⊢
  obtain ⟨k, rfl⟩ := asNat_ok vb hn
  obtain ⟨d, h1, h2, h3⟩ := (hT ty u hu).und
  cases hd : u.und <;> rw [hd] at h h2 <;> simp only [DR, reduceCtorEq] at h h2
  case slice e =>
    subst h2
    cases va <;> simp only [reduceCtorEq, bnd_eq, bif_eq, Bool.and_eq_true, blt_eq, beq_eq, Option.some.injEq] at h
    case sl m j len es cap off hD hc ho hL =>
      obtain ⟨q, hq, ⟨hlt, e1⟩, rfl⟩ := h
      obtain ⟨it, z, k1, k2, _⟩ := (hT e q hq).info
      obtain rfl : off = (c.ρ m).2 + j := by rcases ho with ho | ho; omega; exact ho
      refine ⟨.pointer (some ⟨(c.ρ m).1, (c.ρ m).2 + (j + n * es), none⟩), ?_, .ptr _ _ hD⟩
      simp [Instr.indexAt, asIntOf, run_underlying h1, hlt, sizeOf, typeInfo, k1, k2, e1, add_spot, Nat.add_assoc]
  case array m e =>
    subst h2
    cases va <;> simp only [reduceCtorEq, bnd_eq, bif_eq, blt_eq, Option.some.injEq] at h
    case ptr nm j hD =>
      obtain ⟨q, hq, hlt, rfl⟩ := h
      obtain ⟨it, z, k1, k2, _⟩ := (hT e q hq).info
      refine ⟨.pointer (some ⟨(c.ρ nm).1, (c.ρ nm).2 + (j + n * q.size), none⟩), ?_, .ptr _ _ hD⟩
      simp [Instr.indexAt, Instr.sureAddr, asIntOf, run_underlying h1, hlt, sizeOf, typeInfo, k1, k2, add_spot, Nat.add_assoc]
theorem field_ok (hT : TysR P g) {ty : TypeId} {x : Operand} {f : Nat} {v : AV} (hE : ERel c E ρ [x]) (h : pureR g E (.field ty x f) = some v) :
    ∃ v', (Instr.field ty (ρ x) f).run P w = .ok v' w ∧ VR c v v' := by
  simp only [pureR, bnd_eq, fieldOf] at h
  obtain ⟨a, ha, p, ⟨u, hu, hp⟩, h⟩ := h
  have va := hE x (by simp) a ha
  generalize ρ x = vx at va ⊢
  obtain ⟨d, h1, h2, h3⟩ := (hT ty u hu).und
  cases hd : u.und <;> rw [hd] at hp h2 <;> simp only [DR, reduceCtorEq] at hp h2
  obtain ⟨gs, rfl, rfl⟩ := h2
  simp only [bnd_eq, List.getElem?_map, Option.some.injEq] at hp
  obtain ⟨y, hy, q, hq, rfl⟩ := hp
  cases hg : gs.toList[f]? with
  | none => rw [hg] at hy; cases hy
  | some fd =>
    rw [hg] at hy
    simp only [Option.map_some, Option.some.injEq] at hy
    subst hy
    have hg2 : gs[f]? = some fd := by simpa using hg
    cases va <;> simp only [reduceCtorEq] at h
    rename_i l cs hl
    obtain ⟨v', p1, p2⟩ := part_ok (P := P) (w := w) hT hq (cs := cs.toArray) (by simpa using hl) h
    exact ⟨v', by simp [Instr.field, run_underlying h1, hg2, asAgg, p1], p2⟩
theorem fieldAddr_ok (hT : TysR P g) {ty : TypeId} {x : Operand} {f : Nat} {v : AV} (hE : ERel c E ρ [x]) (h : pureR g E (.fieldAddr ty x f) = some v) :
    ∃ v', (Instr.fieldAt ty (ρ x) f).run P w = .ok v' w ∧ VR c v v' := by
  simp only [pureR, bnd_eq, fieldOf] at h
  obtain ⟨a, ha, p, ⟨u, hu, hp⟩, h⟩ := h
  have va := hE x (by simp) a ha
  generalize ρ x = vx at va ⊢
  obtain ⟨d, h1, h2, h3⟩ := (hT ty u hu).und
  cases hd : u.und <;> rw [hd] at hp h2 <;> simp only [DR, reduceCtorEq] at hp h2
  obtain ⟨gs, rfl, rfl⟩ := h2
  simp only [bnd_eq, List.getElem?_map, Option.some.injEq] at hp
  obtain ⟨y, hy, q, hq, rfl⟩ := hp
  cases hg : gs.toList[f]? with
  | none => rw [hg] at hy; cases hy
  | some fd =>
    rw [hg] at hy
    simp only [Option.map_some, Option.some.injEq] at hy
    subst hy
    have hg2 : gs[f]? = some fd := by simpa using hg
    cases va <;> simp only [reduceCtorEq, bif_eq', Option.some.injEq] at h
    case ptr nm j hD =>
      obtain ⟨hz, rfl⟩ := h
      obtain ⟨it, z, k1, k2, _⟩ := (hT fd.type q hq).info
      have hz2 : it.size ≠ 0 := by
        rw [k2]
        intro e0
        rw [e0] at hz
        cases hz
      refine ⟨.pointer (some ⟨(c.ρ nm).1, (c.ρ nm).2 + (j + fd.offset), none⟩), ?_, .ptr _ _ hD⟩
      simp [Instr.fieldAt, Instr.sureAddr, run_underlying h1, hg2, fieldPlace, sizeOf, typeInfo, k1, hz2, add_spot, Nat.add_assoc]
theorem unop_ok {op : UnOp} {a r : AV} {va : Value} (ha : VR c a va) (h : unopR op a = some r) : ∃ v', (Op.unary op va).run P w = .ok v' w ∧ VR c r v' := by
  cases op <;> cases ha <;> simp only [unopR, reduceCtorEq, Option.some.injEq] at h
  case neg.int => subst h; exact ⟨_, rfl, .int _ _⟩
  case xor.int => exact bitsOf_ok h
  case not.bool => subst h; exact ⟨_, rfl, .bool _⟩
/-- The whole. -/
theorem pure_ok (hT : TysR P g) {o : Oper} {v : AV} (hE : ERel c E ρ o.op.operands.toList) (h : pureR g E o.op = some v) : ∃ v', (execOp ρ o).run P w = .ok (.value v') w ∧ VR c v v' := by
  obtain ⟨dst, op, type, pos, after, guard⟩ := o
  cases op <;> simp only [pureR, reduceCtorEq] at h
  case move x => exact ⟨ρ x, rfl, hE x (by simp [Op.operands]) v h⟩
  case assign x => exact ⟨ρ x, rfl, hE x (by simp [Op.operands]) v h⟩
  case pick k x y =>
    rw [bnd_eq] at h
    obtain ⟨a, ha, h⟩ := h
    have va := hE k (by simp [Op.operands]) a ha
    have hx := hE x (by simp [Op.operands])
    have hy := hE y (by simp [Op.operands])
    unfold execOp
    dsimp only
    generalize ρ k = vk at va ⊢
    cases va <;> try simp only [reduceCtorEq] at h
    rename_i b
    cases b
    · exact ⟨_, by simp [asBool], hy v h⟩
    · exact ⟨_, by simp [asBool], hx v h⟩
  case build ty ps =>
    obtain ⟨v', h1, h2⟩ := build_ok (P := P) (w := w) hT (E := E) (ρ := ρ) (ty := ty) (ps := ps) (by simpa [Op.operands] using hE) h
    exact ⟨v', run_v h1, h2⟩
  case nilCheck x =>
    rw [bnd_eq] at h
    obtain ⟨a, ha, h⟩ := h
    have va := hE x (by simp [Op.operands]) a ha
    unfold execOp
    dsimp only
    generalize ρ x = vk at va ⊢
    cases va <;> try simp only [reduceCtorEq, Option.some.injEq] at h
    case ptr n i hD => subst h; exact ⟨_, rfl, .ptr _ _ hD⟩
    case mp0 => subst h; exact ⟨_, rfl, .mp0⟩
    case mp r hD => subst h; exact ⟨_, rfl, .mp _ hD⟩
    case fn f p q p' q' hp hq =>
      cases f <;> simp only [reduceCtorEq, Option.some.injEq] at h
      subst h
      exact ⟨_, rfl, .fn _ hp hq⟩
  case binOp op xt x y yt =>
    simp only [bnd_eq] at h
    obtain ⟨a, ha, b, hb, h⟩ := h
    obtain ⟨v', h1, h2⟩ := bin_ok (P := P) (w := w) hT (x := x) (y := y) (hE x (by simp [Op.operands]) a ha) (hE y (by simp [Op.operands]) b hb) h
    exact ⟨v', run_v h1, h2⟩
  case unOp op xt x =>
    rw [bnd_eq] at h
    obtain ⟨a, ha, h⟩ := h
    obtain ⟨v', h1, h2⟩ := unop_ok (P := P) (w := w) (hE x (by simp [Op.operands]) a ha) h
    exact ⟨v', run_v h1, h2⟩
  case convert src dst x =>
    simp only [bnd_eq] at h
    obtain ⟨a, ha, s, hs, u, hu, h⟩ := h
    have va := hE x (by simp [Op.operands]) a ha
    unfold execOp
    dsimp only
    generalize ρ x = vk at va ⊢
    obtain ⟨d, h1, h2, h3⟩ := (hT dst u hu).und
    obtain ⟨d2, h4, _⟩ := (hT src s hs).und
    cases hd : u.und <;> rw [hd] at h h2 <;> simp only [DR, reduceCtorEq] at h h2
    subst h2
    cases va <;> simp only [reduceCtorEq, Option.some.injEq] at h
    subst h
    refine ⟨_, run_v ?_, .int _ _⟩
    cases d2 <;> simp [convert, Conv.intToInt, run_underlying h1, run_underlying h4]
  case sliceToArrayPointer ty x =>
    simp only [bnd_eq] at h
    obtain ⟨a, ha, u, hu, h⟩ := h
    have va := hE x (by simp [Op.operands]) a ha
    unfold execOp
    dsimp only
    generalize ρ x = vk at va ⊢
    obtain ⟨d, h1, h2, h3⟩ := (hT ty u hu).und
    cases hd : u.und <;> rw [hd] at h h2 <;> simp only [DR, reduceCtorEq] at h h2
    subst h2
    cases va <;> simp only [reduceCtorEq, bif_eq, Bool.and_eq_true, ble_eq, Bool.not_eq_true', Option.some.injEq] at h
    case sl0 es =>
      obtain ⟨⟨h4, h5⟩, _⟩ := h
      obtain rfl : _ = 0 := Nat.le_zero.1 h4
      cases h5
    case sl nm i len es cap off hD hc ho hL =>
      obtain ⟨⟨h4, h5⟩, rfl⟩ := h
      rename_i n e
      have hn : n ≠ 0 := fun e0 => by subst e0; cases h5
      obtain rfl : off = (c.ρ nm).2 + i := by rcases ho with ho | ho; omega; exact ho
      refine ⟨_, run_v ?_, .ptr _ _ hD⟩
      have : ¬ len < n := by omega
      simp [Instr.arrayAt, run_underlying h1, this]
  case makeFunc f p q =>
    simp only [bnd_eq, Option.some.injEq] at h
    obtain ⟨l, hl, m, hm, rfl⟩ := h
    have h1 := evalOs_ok (c := c) (ρ := ρ) (fun y hy => hE y (by simp [Op.operands] at hy ⊢; exact .inl hy)) hl
    have h2 := evalOs_ok (c := c) (ρ := ρ) (fun y hy => hE y (by simp [Op.operands] at hy ⊢; exact .inr hy)) hm
    refine ⟨_, run_v rfl, ?_⟩
    have h3 := VR.fn f h1 h2
    rw [show (p.toList.map ρ).toArray = p.map ρ by simp [← Array.toList_map], show (q.toList.map ρ).toArray = q.map ρ by simp [← Array.toList_map]] at h3
    exact h3
  case slice ty x lo hi mx =>
    cases mx with
    | some _ => simp only [reduceCtorEq] at h
    | none =>
      obtain ⟨v', h1, h2⟩ := slice_ok (P := P) (w := w) hT (E := E) (ρ := ρ) (ty := ty) (x := x) (lo := lo) (hi := hi) (by cases lo <;> cases hi <;> simpa [Op.operands] using hE) h
      exact ⟨v', run_v h1, h2⟩
  case fieldAddr ty x f =>
    obtain ⟨v', h1, h2⟩ := fieldAddr_ok (P := P) (w := w) hT (E := E) (ρ := ρ) (ty := ty) (x := x) (f := f) (by simpa [Op.operands] using hE) h
    exact ⟨v', run_v h1, h2⟩
  case field ty x f =>
    obtain ⟨v', h1, h2⟩ := field_ok (P := P) (w := w) hT (E := E) (ρ := ρ) (ty := ty) (x := x) (f := f) (by simpa [Op.operands] using hE) h
    exact ⟨v', run_v h1, h2⟩
  case indexAddr ty x i =>
    obtain ⟨v', h1, h2⟩ := indexAddr_ok (P := P) (w := w) hT (E := E) (ρ := ρ) (ty := ty) (x := x) (i := i) (by simpa [Op.operands] using hE) h
    exact ⟨v', run_v h1, h2⟩
  case index ty x i =>
    obtain ⟨v', h1, h2⟩ := index_ok (P := P) (w := w) hT (E := E) (ρ := ρ) (ty := ty) (x := x) (i := i) (by simpa [Op.operands] using hE) h
    exact ⟨v', run_v h1, h2⟩
  case extract x i =>
    simp only [bnd_eq] at h
    obtain ⟨a, ha, h⟩ := h
    have va := hE x (by simp [Op.operands]) a ha
    unfold execOp
    dsimp only
    generalize ρ x = vk at va ⊢
    cases va <;> try simp only [reduceCtorEq] at h
    case tup l l' hl =>
      obtain ⟨v', h1, h2⟩ := hl.get h
      refine ⟨v', run_v ?_, h2⟩
      simp [Instr.extract, h1]
  case call k =>
    have hargs : ∀ l, evalOs E k.args.toList = some l → VRs c l (k.args.map ρ).toList := by
      intro l hl
      rw [Array.toList_map]
      exact evalOs_ok (fun y hy => hE y (by simp only [Op.operands, Call.operands]; simp at hy ⊢; exact .inr hy)) hl
    cases hc : k.callee <;> rw [hc] at h <;> try simp only [reduceCtorEq] at h
    rename_i b
    have hrun : ∀ x w', (builtin b k.argTypes type (k.args.map fun | .const _ => true | _ => false) (k.args.map ρ)).run P w = .ok (.value x) w' → (execOp ρ ⟨dst, .call k, type, pos, after, guard⟩).run P w = .ok (.value x) w' := by
      intro x w' hx
      unfold execOp
      dsimp only
      simp only [resolve, hc, Sem.run_bind, Sem.run_pure, Result.andThen_ok, invoke]
      first | exact hx | (simp only [hx]; done)
    generalize k.args.map ρ = as at hargs hrun
    have arr : ∀ l : List Value, as.toList = l → as = l.toArray := fun l e => by rw [← e]
    cases b <;> try simp only [reduceCtorEq] at h
    case cap =>
      simp only [bnd_eq] at h
      obtain ⟨l, hl, t, ht, u, hu, h⟩ := h
      have hA := hargs l hl
      obtain ⟨d, h1, h2, h3⟩ := (hT t u hu).und
      have ht0 : k.argTypes[0]? = some t := by simpa [List.head?_eq_getElem?] using ht
      split at h <;> simp only [reduceCtorEq, Option.some.injEq] at h
      rename_i e es len hd
      subst h
      rw [hd] at h2
      simp only [DR] at h2
      subst h2
      obtain ⟨v0, hq, hv⟩ := hA.inv1
      cases hv
      refine ⟨_, hrun _ _ (run_v ?_), .int _ _⟩
      rw [arr _ hq]
      simp [Builtin.cap_, ht0, run_underlying h1, goInt]
    case min =>
      simp only [bnd_eq] at h
      obtain ⟨l, hl, h⟩ := h
      have hA := hargs l hl
      split at h <;> simp only [reduceCtorEq, Option.some.injEq] at h
      subst h
      obtain ⟨v0, v1, hq, hv, hu⟩ := hA.inv2
      cases hv
      cases hu
      refine ⟨_, hrun _ _ (run_v ?_), .int _ _⟩
      rw [arr _ hq]
      simp [Builtin.min_, Builtin.min2]
    case max =>
      simp only [bnd_eq] at h
      obtain ⟨l, hl, h⟩ := h
      have hA := hargs l hl
      split at h <;> simp only [reduceCtorEq, Option.some.injEq] at h
      subst h
      obtain ⟨v0, v1, hq, hv, hu⟩ := hA.inv2
      cases hv
      cases hu
      refine ⟨_, hrun _ _ (run_v ?_), .int _ _⟩
      rw [arr _ hq]
      simp [Builtin.max_, Builtin.max2]
    case unsafeSliceData =>
      simp only [bnd_eq] at h
      obtain ⟨l, hl, h⟩ := h
      have hA := hargs l hl
      split at h <;> simp only [reduceCtorEq, bif_eq', Option.some.injEq] at h
      · subst h
        obtain ⟨v0, hq, hv⟩ := hA.inv1
        cases hv
        refine ⟨_, hrun _ _ (run_v ?_), .ptr0⟩
        rw [arr _ hq]
        rfl
      · obtain ⟨hn, h⟩ := h
        subst h
        obtain ⟨v0, hq, hv⟩ := hA.inv1
        cases hv with
        | sl nm i _ _ cap off hD hc ho hL =>
          have hcap : cap ≠ 0 := by
            intro e0
            rw [e0] at hc
            rw [Nat.le_zero.1 hc] at hn
            cases hn
          obtain rfl : off = (c.ρ nm).2 + i := by
            rcases ho with ho | ho
            · exact absurd ho hcap
            · exact ho
          refine ⟨_, hrun _ _ (run_v ?_), .ptr _ _ hD⟩
          rw [arr _ hq]
          exact Lib.run_unsafeSliceData_row _ _ _ _ _ _ hcap
end
end Go.Proofs.YtijiggolphppbaaGreatDoor.Ev
namespace Go.Proofs.YtijiggolphppbaaGreatDoor.Ev
open Go
section
variable {P : Program} {g : Prg} {c : Cx} {w : World} {σ : St} {E : Operand → Option AV} {ρ : Operand → Value}
theorem ba_beq (a b : ByteArray) : (a == b) = decide (a = b) := by
  rcases a with ⟨a⟩; rcases b with ⟨b⟩
  show (a == b) = _
  by_cases h : a = b <;> simp [h]
theorem bsN_inj {s u : List Nat} (h1 : ∀ b ∈ s, b < 256) (h2 : ∀ b ∈ u, b < 256) : bsN s = bsN u ↔ s = u :=
  ⟨fun h => map_ofNat_inj h1 h2 (by rw [← bsN_data, ← bsN_data, h]), fun h => by rw [h]⟩
theorem same_ok {t : TypeId} {ks : List Lk} {a b : AV} {v u : Value} (d : TypeDesc) (h : KV P c t ks a v) (k : KV P c t ks b u) : Instr.sameNow d v u = none ∨ Instr.sameNow d v u = some (eqAs a.cells b.cells) := by
  cases h.rel <;> cases k.rel <;> cases d <;> first
    | exact .inl rfl
    | (refine .inr ?_; simp [Instr.sameNow, eqAs, eqA, AV.cells]; done)
    | skip
  case int.int.int j x k' y q =>
    by_cases e : j = k'
    · subst e
      right
      simp [Instr.sameNow, eqAs, eqA, AV.cells, eqI_beq, show eqK j j = true from eqK_eq.2 rfl]
    · left
      simp [Instr.sameNow, e]
  case str.str.string s hs s2 hs2 =>
    right
    simp only [Instr.sameNow, eqAs, eqA, AV.cells, Bool.and_true, Option.some.injEq, ba_beq]
    rw [Bool.eq_iff_iff, decide_eq_true_eq, eqN_eq]
    exact bsN_inj hs hs2
  all_goals first
    | exact .inl rfl
    | (exfalso; have hf := h.fits; revert hf; cases ks with | nil => simp [fits, AV.cells] | cons q ks => cases q <;> simp [fits, AV.cells])
    | (exfalso; have hf := k.fits; revert hf; cases ks with | nil => simp [fits, AV.cells] | cons q ks => cases q <;> simp [fits, AV.cells])
theorem find_ok {t : TypeId} {u : Ty} {ks : List Lk} {d : TypeDesc} (hk : KeyR P t ks) (hks : u.key = some ks) (hu : P.underlying t = some d) (hr : d.isRow = !u.one) {k : AV} {vk : Value} (kx : KV P c t ks k vk) :
    ∀ {l : List (AV × AV)} {es : List MapEntry} (i : Nat) {r : Option AV}, ER c l es → findK u k l = some r →
      ∃ R, (Instr.findAsking t vk es i).run P w = .ok R w ∧ (Instr.findNow d vk es i = none ∨ Instr.findNow d vk es i = some R) ∧
        (match r with | none => R = none | some a => ∃ j e, R = some (i + j, e.val) ∧ es[j]? = some e ∧ VR c a e.val)
  | [], _, i, r, .nil, h => by
    simp only [findK, Option.some.injEq] at h
    subst h
    exact ⟨none, rfl, .inr rfl, rfl⟩
  | (a, v) :: l, e :: es, i, r, .cons he hv t, h => by
    simp only [findK, bnd_eq, eqKey, bif_eq, Bool.and_eq_true, Option.some.injEq] at h
    obtain ⟨b, ⟨ks', hks', ⟨_, f2⟩, hb⟩, h⟩ := h
    rw [hks] at hks'
    simp only [Option.some.injEq] at hks'
    subst hks'
    have ke := keyOk_kv hk hu hr he f2
    have heq := kx.equal (w := w) hk ke
    have hsm := same_ok d kx ke
    rw [hb] at heq hsm
    cases b with
    | true =>
      simp only [cond_true, Option.some.injEq] at h
      subst h
      refine ⟨some (i, e.val), by simp [Instr.findAsking, heq], ?_, 0, e, by simp, rfl, hv⟩
      rcases hsm with h1 | h1
      · exact .inl (by simp [Instr.findNow, h1])
      · exact .inr (by simp [Instr.findNow, h1])
    | false =>
      simp only [cond_false] at h
      obtain ⟨R, g1, g2, g3⟩ := find_ok hk hks hu hr kx (i + 1) t h
      refine ⟨R, by simp [Instr.findAsking, heq, g1], ?_, ?_⟩
      · rcases hsm with h1 | h1
        · exact .inl (by simp [Instr.findNow, h1])
        · rcases g2 with g2 | g2
          · exact .inl (by simp [Instr.findNow, h1, g2])
          · exact .inr (by simp [Instr.findNow, h1, g2])
      · cases r with
        | none => exact g3
        | some a' =>
          obtain ⟨j, e2, q1, q2, q3⟩ := g3
          exact ⟨j + 1, e2, by rw [q1]; congr 2; omega, by simpa using q2, q3⟩
theorem findKey_ok {t : TypeId} {u : Ty} {ks : List Lk} {d : TypeDesc} (hk : KeyR P t ks) (hks : u.key = some ks) (hu : P.underlying t = some d) (hr : d.isRow = !u.one) {k : AV} {vk : Value} (kx : KV P c t ks k vk)
    {l : List (AV × AV)} {es : List MapEntry} {r : Option AV} (he : ER c l es) (h : findK u k l = some r) :
    ∃ R, (Instr.findKey t vk es).run P w = .ok R w ∧ (match r with | none => R = none | some a => ∃ j e, R = some (j, e.val) ∧ es[j]? = some e ∧ VR c a e.val) := by
  obtain ⟨R, g1, g2, g3⟩ := find_ok (P := P) (w := w) hk hks hu hr kx 0 he h
  refine ⟨R, ?_, by cases r <;> simpa using g3⟩
  unfold Instr.findKey
  rw [Sem.run_bind, run_underlying hu]
  rcases g2 with g2 | g2
  · simp only [Result.andThen_ok, g2]
    exact g1
  · simp only [Result.andThen_ok, g2]
    rfl
theorem keyTy_ok (hT : TysR P g) {ty : TypeId} {q : Ty} (h : keyTy g ty = some q) : ∃ kt e d, P.underlying ty = some (.map kt e) ∧ g.ty kt = some q ∧ P.underlying kt = some d ∧ d.isRow = !q.one := by
  simp only [keyTy, bnd_eq] at h
  obtain ⟨u, hu, h⟩ := h
  obtain ⟨d, h1, h2, h3⟩ := (hT ty u hu).und
  cases hd : u.und <;> rw [hd] at h h2 <;> simp only [DR, reduceCtorEq] at h h2
  subst h2
  obtain ⟨d2, h4, _, h6⟩ := (hT _ q h).und
  exact ⟨_, _, d2, h1, h, h4, h6⟩
theorem Sim.getMap (h : Sim c σ w) {r : Nat} (hd : c.D r) {l : List (AV × AV)} (hl : getMap σ r = some l) : ∃ es clock, w.heap[(c.ρ r).1]? = some (.map es clock) ∧ ER c l es.toList ∧ σ.heap.get r = some (.map l) ∧ MapKept.Stamped es clock := by
  unfold Ev.getMap at hl
  cases hg : σ.heap.get r with
  | none => rw [hg] at hl; cases hl
  | some o =>
    rw [hg] at hl
    cases o with
    | map m =>
      simp only [Option.some.injEq] at hl
      subst hl
      obtain ⟨es, clock, h1, h2⟩ := h.maps _ _ hd hg
      exact ⟨es, clock, h1, h2.1, rfl, h2.2⟩
    | cells _ _ _ => cases hl
    | dead => cases hl
theorem zero_ok (hT : TysR P g) {e : TypeId} {u : Ty} (hu : g.ty e = some u) {z : AV} (hz : mk u u.zero = some z) : ∃ v, (zeroValue e).run P w = .ok v w ∧ VR c z v := by
  obtain ⟨it, v, h1, h2, h3, h4, h5, h6, h7⟩ := (hT e u hu).info
  refine ⟨v, by simp [zeroValue, typeInfo, h1, h3], ?_⟩
  unfold mk at hz
  cases ho : u.one with
  | true =>
    obtain ⟨a, ha, hv⟩ := h6 c ho
    rw [ho, ha] at hz
    simp only [cond_true, Option.some.injEq] at hz
    subst hz
    exact hv
  | false =>
    obtain ⟨cs, rfl⟩ := h7 ho
    rw [ho] at hz
    simp only [cond_false, Option.some.injEq] at hz
    subst hz
    have := VR.agg (h5 c)
    simpa [Value.cells] using this
theorem ER.len : ∀ {l : List (AV × AV)} {es : List MapEntry}, ER c l es → l.length = es.length
  | _, _, .nil => rfl
  | _, _, .cons _ _ t => by simp [ER.len t]
theorem get_map {r : Nat} {es : Array MapEntry} {clock : Nat} (h : w.heap[r]? = some (.map es clock)) : (getObj r).run P w = .ok (.map es clock) w := by
  simp [getObj, Sem.run, h]
theorem lookup_ok (hT : TysR P g) (h : Sim c σ w) {ty : TypeId} {m k : Operand} {ok : Bool} {v : AV} (hE : ERel c E ρ [m, k]) (hr : readR g E σ (.lookup ty m k ok) = some v) :
    ∃ v', (Instr.lookup ty (ρ m) (ρ k) ok).run P w = .ok v' w ∧ VR c v v' := by
  simp only [readR, bnd_eq] at hr
  obtain ⟨am, ham, ak, hak, u, hu, hr⟩ := hr
  have vm := hE m (by simp) am ham
  have vk := hE k (by simp) ak hak
  generalize ρ m = xm at vm ⊢
  generalize ρ k = xk at vk ⊢
  obtain ⟨d, h1, h2, h3⟩ := (hT ty u hu).und
  cases hd : u.und <;> rw [hd] at hr h2 <;> simp only [DR, reduceCtorEq] at hr h2
  subst h2
  rename_i kt et
  simp only [bnd_eq, bif_eq] at hr
  obtain ⟨q, hq, e, he, z, hz, ks, hks, hf, r, hm, hr⟩ := hr
  obtain ⟨d2, h4, _, h6⟩ := (hT _ q hq).und
  have hk := (hT _ q hq).key ks hks
  have kx := keyOk_kv hk h4 h6 vk hf
  obtain ⟨vz, hz1, hz2⟩ := zero_ok (P := P) (c := c) (w := w) hT he hz
  have out : ∀ (x : Value) (b : Bool), VR c (r.getD z) x → r.isSome = b → VR c v (if ok then .tuple #[x, .bool b] else x) := by
    intro x b hx hb
    cases ok with
    | true =>
      simp only [cond_true, Option.some.injEq] at hr
      subst hr
      rw [hb]
      exact .tup (.cons hx (.cons (.bool b) .nil))
    | false =>
      simp only [cond_false, Option.some.injEq] at hr
      subst hr
      exact hx
  cases vm <;> simp only [reduceCtorEq, Option.some.injEq] at hm
  case mp0 =>
    subst hm
    refine ⟨_, ?_, out vz false hz2 rfl⟩
    have hfk : (Instr.findKey kt xk ([] : List MapEntry)).run P w = .ok none w := by
      obtain ⟨R, g1, g2⟩ := findKey_ok (P := P) (w := w) hk hks h4 h6 kx (l := []) (es := []) .nil rfl
      rw [g1, g2]
    simp [Instr.lookup, run_underlying h1, kx.check hk true, hfk, hz1]
  case mp rr hD =>
    rw [bnd_eq] at hm
    obtain ⟨l, hl, hm⟩ := hm
    obtain ⟨es, clock, w1, w2, _⟩ := h.getMap hD hl
    obtain ⟨R, g1, g2⟩ := findKey_ok (P := P) (w := w) hk hks h4 h6 kx w2 hm
    cases r with
    | none =>
      subst g2
      refine ⟨_, ?_, out vz false hz2 rfl⟩
      simp [Instr.lookup, run_underlying h1, kx.check hk es.isEmpty, get_map w1, g1, hz1]
    | some a =>
      obtain ⟨j, e2, rfl, _, q3⟩ := g2
      refine ⟨_, ?_, out e2.val true q3 rfl⟩
      simp [Instr.lookup, run_underlying h1, kx.check hk es.isEmpty, get_map w1, g1]
end
end Go.Proofs.YtijiggolphppbaaGreatDoor.Ev
namespace Go.Proofs.YtijiggolphppbaaGreatDoor.Ev
open Go
section
variable {P : Program} {g : Prg} {c : Cx} {w : World} {σ : St} {E : Operand → Option AV} {ρ : Operand → Value}
theorem liesAt_self {e : TypeId} {count : Nat} (hc : P.cellsOf e ≠ 0) (hn : 1 ≤ count) : liesAt P P.depth e count 0 e 1 = true := by
  have hd : P.depth = (2 * (P.types.size + Made.depth) + 1) + 1 := rfl
  rw [hd]
  simp only [liesAt, Bool.or_eq_true]
  left
  rw [hd]
  simp [rowAt, hc, hn, sameLayout]
theorem strOf_ok : ∀ {l : List AV} {s : List Nat} {vs : List Value}, strOf l = some s → VRs c l vs → (∀ b ∈ s, b < 256) ∧ s.length = l.length ∧ vs = s.map fun b : Nat => Value.int .u8 (b : Int)
  | [], s, _, h, .nil => by simp [strOf] at h; subst h; exact ⟨fun b hb => by simp at hb, rfl, rfl⟩
  | a :: l, s, _, h, .cons hv t => by
    cases a <;> try (simp only [strOf, reduceCtorEq] at h)
    rename_i k n
    cases k <;> simp only [strOf, reduceCtorEq, bif_eq', bnd_eq, Option.some.injEq, Bool.or_eq_false_iff, decide_eq_false_iff_not] at h
    obtain ⟨⟨h1, h2⟩, r, hr, rfl⟩ := h
    obtain ⟨g1, g2, g3⟩ := strOf_ok hr t
    cases hv
    refine ⟨fun b hb => ?_, by simp [g2], ?_⟩
    · rcases List.mem_cons.1 hb with rfl | hb
      · omega
      · exact g1 b hb
    · rw [g3]
      simp only [List.map_cons, List.cons.injEq, Value.int.injEq, true_and, and_true]
      omega
theorem VR.off0 {n i len cap off : Nat} (hc : len ≤ cap) (ho : cap = 0 ∨ off = (c.ρ n).2 + i) : len = 0 ∨ off = (c.ρ n).2 + i := by
  rcases ho with ho | ho
  · exact .inl (by omega)
  · exact .inr ho
theorem arrOf_ok (hT : TysR P g) {u : Ty} {d : TypeDesc} (h2 : DR u.und d) {q : Nat × TypeId} (h : arrOf g u = some q) : d = .array q.1 q.2 ∨ ∃ a, d = .pointer a ∧ P.underlying a = some (.array q.1 q.2) := by
  unfold arrOf at h
  cases hd : u.und <;> rw [hd] at h h2 <;> simp only [DR, reduceCtorEq, Option.some.injEq] at h h2
  case array n e => subst h; exact .inl h2
  case pointer a =>
    rw [bnd_eq] at h
    obtain ⟨w, hw, h⟩ := h
    obtain ⟨d2, k1, k2, _⟩ := (hT a w hw).und
    cases hd2 : w.und <;> rw [hd2] at h k2 <;> simp only [DR, reduceCtorEq, Option.some.injEq] at h k2
    subst h
    subst k2
    exact .inr ⟨a, h2, k1⟩
theorem slice_arr_ok (hT : TysR P g) (h : Sim c σ w) {ty : TypeId} {x : Operand} {lo hi : Option Operand} {v : AV} (hE : ERel c E ρ ([x] ++ lo.toList ++ hi.toList)) (hr : readR g E σ (.slice ty x lo hi none) = some v) :
    ∃ v', (Instr.sliceAt ty (ρ x) (lo.map ρ) (hi.map ρ) none).run P w = .ok v' w ∧ VR c v v' := by
  simp only [readR, bnd_eq] at hr
  obtain ⟨a, ha, lo', hlo, hi', hhi, u, hu, hr⟩ := hr
  have va := hE x (by simp) a ha
  have vl := opt_ok (fun y hy => hE y (by simp at hy ⊢; exact .inr (.inl hy))) hlo
  have vh := opt_ok (fun y hy => hE y (by simp at hy ⊢; exact .inr (.inr hy))) hhi
  generalize ρ x = vx at va ⊢
  obtain ⟨d, h1, h2, h3⟩ := (hT ty u hu).und
  cases va <;> simp only [reduceCtorEq, bnd_eq] at hr
  case ptr nm i hD =>
    obtain ⟨q, hq, wt, hw, p, hp, hr⟩ := hr
    obtain ⟨it, z, k1, k2, _⟩ := (hT q.2 wt hw).info
    cases hg : σ.heap.get nm with
    | none => rw [hg] at hr; cases hr
    | some o =>
      rw [hg] at hr
      cases o with
      | map _ => cases hr
      | dead => cases hr
      | cells k t ty2 =>
        simp only [bif_eq, ble_eq, Option.some.injEq] at hr
        obtain ⟨hle, rfl⟩ := hr
        obtain ⟨cs, l0, h0, g1, g2, g3, g4, _⟩ := h.cells _ _ _ _ hD hg
        obtain ⟨b1, b2, b3⟩ := bounds_ok (P := P) (w := w) (b := false) vl vh (Nat.le_refl _) hp
        refine ⟨.slice (some (if q.1 = p.1 then ⟨(c.ρ nm).1, (c.ρ nm).2 + i, none⟩ else ⟨(c.ρ nm).1, (c.ρ nm).2 + i + p.1 * wt.size, none⟩)) (p.2 - p.1) (q.1 - p.1), ?_, ?_⟩
        · rcases arrOf_ok hT h2 hq with rfl | ⟨a2, rfl, e2⟩
          · simp [Instr.sliceAt, Instr.sureAddr, run_underlying h1, b1, sizeOf, typeInfo, k1, k2, add_spot]
          · simp [Instr.sliceAt, Instr.slice, asAddr, run_underlying h1, run_underlying e2, b1, sizeOf, typeInfo, k1, k2, add_spot]
        · have hm : (c.ρ nm).2 + (i + p.1 * wt.size) + (q.1 - p.1) * wt.size ≤ c.L (c.ρ nm).1 := by
            have : p.1 * wt.size + (q.1 - p.1) * wt.size = q.1 * wt.size := by rw [← Nat.add_mul]; congr 1; omega
            omega
          by_cases e : q.1 = p.1
          · rw [if_pos e]
            exact .sl nm _ _ _ _ _ hD (by omega) (.inl (by omega)) hm
          · rw [if_neg e]
            exact .sl nm _ _ _ _ _ hD (by omega) (.inr (by omega)) hm
theorem convert_ok (hT : TysR P g) (h : Sim c σ w) {src dst : TypeId} {x : Operand} {v : AV} (hE : ERel c E ρ [x]) (hr : readR g E σ (.convert src dst x) = some v) :
    ∃ v', (convert src dst (ρ x)).run P w = .ok v' w ∧ VR c v v' := by
  simp only [readR, bnd_eq] at hr
  obtain ⟨a, ha, s, hs, u, hu, hr⟩ := hr
  have va := hE x (by simp) a ha
  generalize ρ x = vx at va ⊢
  obtain ⟨d, h1, h2, h3⟩ := (hT dst u hu).und
  obtain ⟨d2, h4, h5, h6⟩ := (hT src s hs).und
  cases hd : s.und <;> rw [hd] at hr h5 <;> try (simp only [reduceCtorEq] at hr; done)
  case string =>
    cases hd2 : u.und <;> rw [hd2] at hr h2 <;> simp only [DR, reduceCtorEq] at hr h2 h5
    subst h2 h5
    cases va <;> simp only [reduceCtorEq, Option.some.injEq] at hr
    subst hr
    rename_i s hs
    exact ⟨_, by simp [convert, run_underlying h1, run_underlying h4], .str _ hs⟩
  case slice e =>
    cases hd2 : u.und <;> rw [hd2] at hr h2 <;> simp only [DR, reduceCtorEq] at hr h2 h5
    subst h2 h5
    cases va <;> simp only [reduceCtorEq, bnd_eq] at hr
    case sl0 es =>
      obtain ⟨q, hq, hr⟩ := hr
      obtain ⟨d3, k1, k2, _⟩ := (hT e q hq).und
      split at hr <;> simp only [reduceCtorEq, Option.some.injEq] at hr
      rename_i hq2
      rw [hq2] at k2
      simp only [DR] at k2
      subst k2 hr
      refine ⟨.string (bsN []), ?_, .str [] (by simp)⟩
      simp [convert, run_underlying h1, run_underlying h4, run_underlying k1, Conv.bytesToString]
      rfl
    case sl nm i len es cap off hD hc ho hL =>
      obtain ⟨q, hq, hr⟩ := hr
      obtain ⟨d3, k1, k2, _⟩ := (hT e q hq).und
      split at hr <;> simp only [reduceCtorEq, bnd_eq, Option.some.injEq] at hr
      rename_i hq2
      rw [hq2] at k2
      simp only [DR] at k2
      obtain ⟨l, hl, st, hst, rfl⟩ := hr
      subst k2
      obtain ⟨vs, g1, g2, g3⟩ := h.range hD hl
      obtain ⟨q1, q2, q3⟩ := strOf_ok hst g1
      have hlen : l.length = len := by
        have := g1.len
        unfold loadN at hl
        cases hg : σ.heap.get nm with
        | none => rw [hg] at hl; cases hl
        | some o => rw [hg] at hl; cases o with
          | cells k t ty => exact (readN_some hl).1
          | map _ => cases hl
          | dead => cases hl
      refine ⟨.string (bsN st), ?_, .str st q1⟩
      have hb := run_convert_bytes_back (P := P) w src dst e ⟨(c.ρ nm).1, off, none⟩ cap (st.map UInt8.ofNat) h4 k1 h1 (fun j hj => by
        simp only [List.length_map] at hj
        rcases VR.off0 hc ho with e0 | rfl
        · omega
        · have hv : vs[j]? = some (.int .u8 ((st[j]'hj : Nat) : Int)) := by rw [q3]; simp [hj]
          have := g2 j _ hv
          rw [add_spot, this]
          simp only [List.getElem_map, UInt8.toNat_ofNat']
          have := q1 _ (List.getElem_mem hj)
          rw [Nat.mod_eq_of_lt (by simpa using this)])
      simp only [List.length_map, q2, hlen] at hb
      exact hb
  case pointer e =>
    cases hd2 : u.und <;> rw [hd2] at hr h2 <;> simp only [DR, reduceCtorEq] at hr h2 h5
    subst h2 h5
    cases va <;> simp only [reduceCtorEq, bnd_eq] at hr
    case ptr nm i hD =>
      obtain ⟨q, hq, hr⟩ := hr
      cases hg : σ.heap.get nm with
      | none => rw [hg] at hr; cases hr
      | some o =>
        rw [hg] at hr
        cases o with
        | map _ => cases hr
        | dead => cases hr
        | cells k t ty2 =>
          simp only [bif_eq, Bool.and_eq_true, blt_eq, Bool.not_eq_true', Option.some.injEq] at hr
          obtain ⟨⟨hlt, hz⟩, rfl⟩ := hr
          obtain ⟨it, z, k1, k2, _⟩ := (hT e q hq).info
          obtain ⟨cs, l0, h0, g1, g2, g3, g4, _⟩ := h.cells _ _ _ _ hD hg
          have hz2 : it.size ≠ 0 := by
            rw [k2]; intro e0; rw [e0] at hz; cases hz
          refine ⟨_, Lib.run_to_unsafe (P := P) w (e := ty2) (cells := cs.size) ⟨(c.ρ nm).1, (c.ρ nm).2 + i, none⟩ h4 h1 k1 hz2 (by simp [World.shape?, g1]) (by simp only; omega), .ptr _ _ hD⟩
  case unsafePointer =>
    cases hd2 : u.und <;> rw [hd2] at hr h2 <;> simp only [DR, reduceCtorEq] at hr h2 h5
    subst h2 h5
    cases va <;> simp only [reduceCtorEq, bnd_eq] at hr
    case ptr nm i hD =>
      obtain ⟨q, hq, hr⟩ := hr
      cases hg : σ.heap.get nm with
      | none => rw [hg] at hr; cases hr
      | some o =>
        rw [hg] at hr
        cases o with
        | map _ => cases hr
        | dead => cases hr
        | cells k t ty2 =>
          simp only [bif_eq, Bool.and_eq_true, beq_eq, ble_eq, Bool.not_eq_true', Option.some.injEq] at hr
          obtain ⟨⟨⟨⟨rfl, rfl⟩, hk⟩, hz⟩, rfl⟩ := hr
          obtain ⟨it, z, k1, k2, _⟩ := (hT _ q hq).info
          obtain ⟨cs, l0, h0, g1, g2, g3, g4, _⟩ := h.cells _ _ _ _ hD hg
          have hz2 : it.size ≠ 0 := by
            rw [k2]; intro e0; rw [e0] at hz; cases hz
          have hc : P.cellsOf ty2 = it.size := by simp [Program.cellsOf, k1]
          have h00 := h.zero nm hD
          refine ⟨_, Lib.run_from_unsafe (P := P) w (e := ty2) (cells := cs.size) ⟨(c.ρ nm).1, (c.ρ nm).2 + 0, none⟩ h4 h1 k1 (by simp [World.shape?, g1]) ?_, .ptr _ _ hD⟩
          simp only [h00]
          refine liesAt_self (by rw [hc]; exact hz2) ?_
          rw [hc, k2]
          exact (Nat.one_le_div_iff (by omega)).2 (by omega)
end
end Go.Proofs.YtijiggolphppbaaGreatDoor.Ev
