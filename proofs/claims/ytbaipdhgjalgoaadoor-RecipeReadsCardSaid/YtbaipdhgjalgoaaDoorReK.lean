/- recipe.read walked. -/
import Derived.Test.YtbaipdhgjalgoaaDoorReJ
namespace Go.Proofs.YtbaipdhgjalgoaaDoor
open Go.RowKit

theorem elAct : ElT Tryd.prog 24 42 3 56 := .mk' (z := .agg #[.string ByteArray.empty, .slice none 0 0, .string ByteArray.empty]) Tryd.underlying24 (by kernel_rfl) rfl (by decide) rfl
def flatA (ps : List (ActR × Value)) : List Value := ps.flatMap fun p => [strV p.1.name, p.2, strV p.1.code]
theorem flatA_append (ps : List (ActR × Value)) (p : ActR × Value) : flatA (ps ++ [p]) = flatA ps ++ [strV p.1.name, p.2, strV p.1.code] := by simp [flatA]
theorem flatA_len (ps : List (ActR × Value)) : (flatA ps).length = ps.length * 3 := by
  induction ps with
  | nil => rfl
  | cons p ps ih => show (_ ++ flatA ps).length = _; rw [List.length_append, ih]; simp; omega
theorem own_eq {g2 n cap k : Nat} (h : (Value.slice (some ⟨g2, 0, none⟩) n cap).ownBlock = some k) : k = g2 := by cases h; rfl
def slBlk : Value → Option Nat
  | .slice (some a) _ _ => some a.block
  | _ => none
theorem add_block (a : Addr) (i : Nat) : (a.add i).block = a.block := by unfold Addr.add; split <;> rfl
theorem NamesAt.chg' {F : Nat → Prop} {w w' : World} {v : Value} {ss : List (List UInt8)} (h : NamesAt w v ss) (hc : Chg F w w') (hF : ss ≠ [] → ∀ k, slBlk v = some k → ¬ F k) : NamesAt w' v ss := by
  refine ⟨?_, h.2⟩
  rcases h.1 with h1 | ⟨a, cap, hv, h1⟩
  · exact .inl h1
  · refine .inr ⟨a, cap, hv, fun i hi => hc.cell (h1 i hi) ?_⟩
    rw [add_block]
    exact hF (fun e => by subst e; simp at hi) a.block (by rw [hv]; rfl)
theorem NamesAt.lt {w : World} {v : Value} {ss : List (List UInt8)} (h : NamesAt w v ss) (hn : ss ≠ []) : ∀ k, slBlk v = some k → k < w.heap.size := by
  intro k hk
  rcases h.1 with ⟨_, h1⟩ | ⟨a, cap, rfl, h1⟩
  · exact absurd (List.map_eq_nil_iff.1 h1) hn
  · have h0 := h1 0 (by simpa using List.length_pos_iff.2 hn)
    have := World.block_lt_of_cell? w _ h0
    rw [add_block] at this
    cases hk
    exact this

/-- The build under way at block gb. -/
structure GSt (base : Nat) (w : World) (gb : Nat) (sv av : Value) (ss : List (List UInt8)) (ps : List (ActR × Value)) : Prop where
  blk : w.heap[gb]? = some (.cells #[sv, av] 26 (0, 0))
  so : w.ownsRow 0 9 1 sv ss.length (ss.map strV)
  ao : w.ownsRow 0 42 3 av ps.length (flatA ps)
  sg : sv.ownBlock ≠ some gb
  ag : av.ownBlock ≠ some gb
  sa : ∀ k, sv.ownBlock = some k → av.ownBlock ≠ some k
  bg : base ≤ gb
  bsv : ∀ k, sv.ownBlock = some k → base ≤ k
  bav : ∀ k, av.ownBlock = some k → base ≤ k
  ins : ∀ p ∈ ps, NamesAt w p.2 p.1.ins ∧ (p.1.ins ≠ [] → ∀ k, slBlk p.2 = some k → base ≤ k ∧ k ≠ gb ∧ sv.ownBlock ≠ some k ∧ av.ownBlock ≠ some k)
  wide : (∀ s ∈ ss, s.length ≤ 100000) ∧ ∀ p ∈ ps, p.1.name.length ≤ 100000 ∧ p.1.code.length ≤ 100000
theorem GSt.lt {base : Nat} {w : World} {gb : Nat} {sv av : Value} {ss : List (List UInt8)} {ps : List (ActR × Value)} (h : GSt base w gb sv av ss ps) : gb < w.heap.size := heap_lt h.blk
theorem GSt.keep {base : Nat} {w w' : World} {gb : Nat} {sv av : Value} {ss : List (List UInt8)} {ps : List (ActR × Value)} (h : GSt base w gb sv av ss ps) (hc : Chg (fun _ => False) w w') : GSt base w' gb sv av ss ps :=
  ⟨hc.obj h.blk (fun h => h), hc.owns h.so (fun _ _ h => h), hc.owns h.ao (fun _ _ h => h), h.sg, h.ag, h.sa, h.bg, h.bsv, h.bav, fun p hp => ⟨(h.ins p hp).1.chg' hc (fun _ _ _ h => h), (h.ins p hp).2⟩, h.wide⟩

theorem GSt.putS {base : Nat} {w w' : World} {gb : Nat} {sv av : Value} {ss : List (List UInt8)} {ps : List (ActR × Value)} (h : GSt base w gb sv av ss ps) (hb : base ≤ w.heap.size) {g2 n cap : Nat} {x : List UInt8} (hx : x.length ≤ 100000)
    (hc : Chg (fun k => sv.ownBlock = some k) w w') (hown : w'.ownsRow 0 9 1 (.slice (some ⟨g2, 0, none⟩) n cap) n (ss.map strV ++ [strV x])) (hn : n = ss.length + 1) (hg : sv.ownBlock = some g2 ∨ w.heap.size ≤ g2) :
    GSt base (w'.setCell ⟨gb, 0, none⟩ (.slice (some ⟨g2, 0, none⟩) n cap)) gb (.slice (some ⟨g2, 0, none⟩) n cap) av (ss ++ [x]) ps := by
  have hblk := hc.obj h.blk (fun e => h.sg e)
  have hlt := h.lt
  have hg2 : g2 ≠ gb := by rcases hg with e | e
                           · intro e2; subst e2; exact h.sg e
                           · omega
  have hc2 : Chg (fun k => k = gb ∨ sv.ownBlock = some k) w (w'.setCell ⟨gb, 0, none⟩ (.slice (some ⟨g2, 0, none⟩) n cap)) := (hc.mono (fun _ _ h => .inr h)).setCell (p := ⟨gb, 0, none⟩) (fun _ => .inl rfl) _
  refine ⟨?_, ?_, ?_, ?_, h.ag, ?_, h.bg, ?_, h.bav, ?_, ?_, h.wide.2⟩
  · simpa using heap_set_same hblk 0 (.slice (some ⟨g2, 0, none⟩) n cap)
  · have := ((Chg.refl (fun k => k = gb) w').setCell (p := ⟨gb, 0, none⟩) (fun _ => rfl) (.slice (some ⟨g2, 0, none⟩) n cap)).owns hown (fun k hk e => hg2 (by have := own_eq hk; subst this; exact e))
    rw [hn] at this ⊢
    simpa using this
  · exact hc2.owns h.ao (fun k hk e => e.elim (fun e => by subst e; exact h.ag hk) (fun e => h.sa k e hk))
  · intro e; exact hg2 (own_eq e).symm
  · intro k hk e
    obtain rfl := own_eq hk
    rcases hg with e2 | e2
    · exact h.sa _ e2 e
    · have := (World.ownsRow.lt h.ao _ e).2; omega
  · intro k hk
    obtain rfl := own_eq hk
    rcases hg with e2 | e2
    · exact h.bsv _ e2
    · omega
  · intro p hp
    obtain ⟨h1, h2⟩ := h.ins p hp
    refine ⟨h1.chg' hc2 (fun hne k hk e => e.elim (fun e => (h2 hne k hk).2.1 e) (fun e => (h2 hne k hk).2.2.1 e)), fun hne k hk => ⟨(h2 hne k hk).1, (h2 hne k hk).2.1, ?_, (h2 hne k hk).2.2.2⟩⟩
    intro e
    obtain rfl := own_eq e
    rcases hg with e2 | e2
    · exact (h2 hne _ hk).2.2.1 e2
    · have := h1.lt hne _ hk; omega
  · intro s hs
    simp only [List.mem_append, List.mem_singleton] at hs
    rcases hs with hs | rfl
    · exact h.wide.1 s hs
    · exact hx
theorem GSt.putA {base : Nat} {w w' : World} {gb : Nat} {sv av : Value} {ss : List (List UInt8)} {ps : List (ActR × Value)} (h : GSt base w gb sv av ss ps) (hb : base ≤ w.heap.size) {g2 n cap : Nat} {p : ActR × Value}
    (hp : p.1.name.length ≤ 100000 ∧ p.1.code.length ≤ 100000) (hpn : NamesAt w p.2 p.1.ins) (hpa : p.1.ins ≠ [] → ∀ k, slBlk p.2 = some k → base ≤ k ∧ k ≠ gb ∧ sv.ownBlock ≠ some k ∧ av.ownBlock ≠ some k)
    (hc : Chg (fun k => av.ownBlock = some k) w w') (hown : w'.ownsRow 0 42 3 (.slice (some ⟨g2, 0, none⟩) n cap) n (flatA ps ++ [strV p.1.name, p.2, strV p.1.code])) (hn : n = ps.length + 1) (hg : av.ownBlock = some g2 ∨ w.heap.size ≤ g2) :
    GSt base (w'.setCell ⟨gb, 1, none⟩ (.slice (some ⟨g2, 0, none⟩) n cap)) gb sv (.slice (some ⟨g2, 0, none⟩) n cap) ss (ps ++ [p]) := by
  have hblk := hc.obj h.blk (fun e => h.ag e)
  have hlt := h.lt
  have hg2 : g2 ≠ gb := by rcases hg with e | e
                           · intro e2; subst e2; exact h.ag e
                           · omega
  have hc2 : Chg (fun k => k = gb ∨ av.ownBlock = some k) w (w'.setCell ⟨gb, 1, none⟩ (.slice (some ⟨g2, 0, none⟩) n cap)) := (hc.mono (fun _ _ h => .inr h)).setCell (p := ⟨gb, 1, none⟩) (fun _ => .inl rfl) _
  have hins : ∀ q ∈ ps ++ [p], NamesAt w q.2 q.1.ins ∧ (q.1.ins ≠ [] → ∀ k, slBlk q.2 = some k → base ≤ k ∧ k ≠ gb ∧ sv.ownBlock ≠ some k ∧ av.ownBlock ≠ some k) := by
    intro q hq
    simp only [List.mem_append, List.mem_singleton] at hq
    rcases hq with hq | rfl
    · exact h.ins q hq
    · exact ⟨hpn, hpa⟩
  refine ⟨?_, ?_, ?_, h.sg, ?_, ?_, h.bg, h.bsv, ?_, ?_, h.wide.1, ?_⟩
  · simpa using heap_set_same hblk 1 (.slice (some ⟨g2, 0, none⟩) n cap)
  · exact hc2.owns h.so (fun k hk e => e.elim (fun e => by subst e; exact h.sg hk) (fun e => h.sa k hk e))
  · have := ((Chg.refl (fun k => k = gb) w').setCell (p := ⟨gb, 1, none⟩) (fun _ => rfl) (.slice (some ⟨g2, 0, none⟩) n cap)).owns hown (fun k hk e => hg2 (by have := own_eq hk; subst this; exact e))
    rw [hn] at this ⊢
    rw [flatA_append]
    simpa using this
  · intro e; exact hg2 (own_eq e).symm
  · intro k hk e
    obtain rfl := own_eq e
    rcases hg with e2 | e2
    · exact h.sa _ hk e2
    · have := (World.ownsRow.lt h.so _ hk).2; omega
  · intro k hk
    obtain rfl := own_eq hk
    rcases hg with e2 | e2
    · exact h.bav _ e2
    · omega
  · intro q hq
    obtain ⟨h1, h2⟩ := hins q hq
    refine ⟨h1.chg' hc2 (fun hne k hk e => e.elim (fun e => (h2 hne k hk).2.1 e) (fun e => (h2 hne k hk).2.2.2 e)), fun hne k hk => ⟨(h2 hne k hk).1, (h2 hne k hk).2.1, (h2 hne k hk).2.2.1, ?_⟩⟩
    intro e
    obtain rfl := own_eq e
    rcases hg with e2 | e2
    · exact (h2 hne _ hk).2.2.2 e2
    · have := h1.lt hne _ hk; omega
  · intro q hq
    simp only [List.mem_append, List.mem_singleton] at hq
    rcases hq with hq | rfl
    · exact h.wide.2 q hq
    · exact hp

theorem flatA_get : ∀ (ps : List (ActR × Value)) (i j : Nat), j < 3 → (flatA ps)[i * 3 + j]? = (ps[i]?).bind (fun p => [strV p.1.name, p.2, strV p.1.code][j]?)
  | [], i, j, _ => by simp [flatA]
  | p :: ps, i, j, hj => by
    have e : flatA (p :: ps) = [strV p.1.name, p.2, strV p.1.code] ++ flatA ps := rfl
    rw [e]
    cases i with
    | zero =>
      rw [Nat.zero_mul, Nat.zero_add, List.getElem?_append_left (by simpa using hj)]
      rfl
    | succ i =>
      rw [List.getElem?_append_right (by simp; omega), show (i + 1) * 3 + j - [strV p.1.name, p.2, strV p.1.code].length = i * 3 + j by simp; omega, flatA_get ps i j hj]
      rfl
theorem own_form {w : World} {e : TypeId} {size n : Nat} {v : Value} {xs : List Value} (h : w.ownsRow 0 e size v n xs) : ∃ oa cap, v = .slice oa n cap := by
  rcases h.2 with ⟨rfl, rfl⟩ | ⟨g, cap, cur, rfl, _⟩
  · exact ⟨none, 0, rfl⟩
  · exact ⟨_, cap, rfl⟩
/-- The build, read at a world in which nothing of it has changed. -/
theorem GSt.gr {base : Nat} {w w' : World} {gb : Nat} {sv av : Value} {ss : List (List UInt8)} {ps : List (ActR × Value)} (h : GSt base w gb sv av ss ps) {F : Nat → Prop} (hc : Chg F w w') (hF : ∀ k, base ≤ k → ¬ F k) (hl : ss.length ≤ 8 ∧ ps.length ≤ 12) : GrAt w' (.agg #[sv, av]) ⟨ss, ps.map (·.1)⟩ := by
  have hso := hc.owns h.so (fun k hk => hF k (h.bsv k hk))
  have hao := hc.owns h.ao (fun k hk => hF k (h.bav k hk))
  refine ⟨sv, av, fun i => (ps.map (·.2)).getD i (.bool true), rfl, ⟨?_, by simp; unfold maxLen; omega, ?_⟩, ⟨?_, by simp; unfold maxLen; omega, fun i _ => rfl⟩, ?_, ?_⟩
  · rcases hso.2 with ⟨rfl, h0⟩ | ⟨g, cap, cur, rfl, _⟩
    · left; exact ⟨rfl, by rw [List.length_eq_zero_iff.1 h0]; rfl⟩
    · right
      refine ⟨⟨g, 0, none⟩, cap, by simp, fun i hi => ?_⟩
      have hi' : i < ss.length := by simpa using hi
      have h3 := hso.cellAt i (by simpa using hi')
      have e3 : (⟨g, 0, none⟩ : Addr).add i = ⟨g, i, none⟩ := by unfold Addr.add; split <;> simp_all
      rw [e3, h3]
      simp [strV, hi']
  · intro s hs
    obtain ⟨y, hy, rfl⟩ := List.mem_map.1 hs
    rw [bs_size]
    exact Nat.le_trans (h.wide.1 y hy) (by decide)
  · rcases hao.2 with ⟨rfl, h0⟩ | ⟨g, cap, cur, rfl, _⟩
    · left; exact ⟨rfl, by simpa using h0⟩
    · right
      refine ⟨⟨g, 0, none⟩, cap, by simp, fun i hi j hj => ?_⟩
      have hi' : i < ps.length := by simpa using hi
      have h3 := hao.cellAt (i * 3 + j) (by omega)
      have e3 : (⟨g, 0, none⟩ : Addr).add (i * 3 + j) = ⟨g, i * 3 + j, none⟩ := by unfold Addr.add; split <;> simp_all
      rw [e3, h3, flatA_get ps i j hj]
      simp [hi', strV]
  · intro i hi
    have hi' : i < ps.length := by simpa using hi
    obtain ⟨h1, h2⟩ := h.ins ps[i] (List.getElem_mem hi')
    have := h1.chg' hc (fun hne k hk => hF k (h2 hne k hk).1)
    simpa [List.getD_eq_getElem?_getD, hi'] using this
  · intro a ha
    obtain ⟨p, hp, rfl⟩ := List.mem_map.1 ha
    have := h.wide.2 p hp
    exact ⟨Nat.le_trans this.1 (by decide), Nat.le_trans this.2 (by decide)⟩

/-- What read leaves. -/
def ReadPost (base : Nat) (w : World) (gb : Nat) (o : Option GrR) (e : Ending) (w' : World) : Prop :=
  Chg (fun k => base ≤ k) w w' ∧ match o with
  | none => e = .returned (.bool false)
  | some g => e = .returned (.bool true) ∧ ∃ sv av ps, GSt base w' gb sv av g.srcs ps ∧ g.acts = ps.map (·.1)
end Go.Proofs.YtbaipdhgjalgoaaDoor
