/- Texts of the proof, one behind the other: A build renamed comes to the same: plain law. No program in sight; OvenNames walked: it returns true. -/
import Derived.Test.YthglfmacjoecgaaGreatDoorMg18
import Derived.Test.YthglfmacjoecgaaGreatDoorMg14
import Derived.Test.YthglfmacjoecgaaGreatDoorMg34
import Derived.Test.YthglfmacjoecgaaGreatDoorMg31
import Derived.Test.YthglfmacjoecgaaGreatDoorMg27
namespace Go.Proofs.YthglfmacjoecgaaGreatDoor
open Go

/-- A name with a q ahead. -/
def qN (s : Nm) : Nm := 113 :: s
def qA (a : ActR) : ActR := ⟨qN a.name, a.ins.map qN, a.code⟩
def qG (g : GrR) : GrR := ⟨g.srcs.map qN, g.acts.map qA⟩
def qS (srcs : List SrcR) : List SrcR := (srcs.map fun s => (qN s.1, s.2)).reverse
theorem qN_inj {a b : Nm} (h : qN a = qN b) : a = b := (List.cons.inj h).2
theorem qN_len (s : Nm) : (qN s).length = s.length + 1 := rfl
theorem mem_qN {s : Nm} {l : List Nm} : qN s ∈ l.map qN ↔ s ∈ l := by
  rw [List.mem_map]
  exact ⟨fun ⟨x, hx, e⟩ => qN_inj e ▸ hx, fun h => ⟨s, h, rfl⟩⟩
theorem contains_qN (s : Nm) (l : List Nm) : (l.map qN).contains (qN s) = l.contains s := by
  rw [Bool.eq_iff_iff, List.contains_iff_mem, List.contains_iff_mem, mem_qN]
theorem qN_name {s : Nm} (h : nameL s = true) (hl : s.length ≤ 7) : nameL (qN s) = true := by
  obtain ⟨h1, h2, h3⟩ := nameL_let h
  unfold nameL
  have hq : letB 113 = true := by decide
  simp only [Bool.and_eq_true, decide_eq_true_eq]
  refine ⟨⟨by rw [qN_len]; omega, by rw [qN_len]; omega⟩, ?_⟩
  show (113 :: s).all letB = true
  rw [List.all_cons, hq, h3]
  rfl
theorem nameAt_q {g : GrR} {i : Nat} (h : i < g.acts.length) : nameAt (qG g) i = qN (nameAt g i) := by
  rw [nameAt_lt g i h, nameAt_lt (qG g) i (by simpa [qG] using h)]
  simp [qG, qA]
theorem insAt_q {g : GrR} {i : Nat} (h : i < g.acts.length) : insAt (qG g) i = (insAt g i).map qN := by
  rw [insAt_lt g i h, insAt_lt (qG g) i (by simpa [qG] using h)]
  simp [qG, qA]
theorem codeAt_q {g : GrR} {i : Nat} (h : i < g.acts.length) : codeAt (qG g) i = codeAt g i := by
  rw [codeAt_lt g i h, codeAt_lt (qG g) i (by simpa [qG] using h)]
  simp [qG, qA]
theorem q_len (g : GrR) : (qG g).acts.length = g.acts.length := by simp [qG]
theorem names_q (g : GrR) : namesL (qG g) = (namesL g).map qN := by
  unfold namesL qG
  simp only [List.map_append, List.map_map]
  congr 1
theorem map_nodup {l : List Nm} (h : l.Nodup) : (l.map qN).Nodup := by
  rw [List.Nodup, List.pairwise_map]
  exact h.imp (fun hn e => hn (qN_inj e))
theorem ready_q {g : GrR} {l : List Nat} (hl : ∀ i ∈ l, i < g.acts.length) (a : ActR) : readyB (qG g) l (qA a) = readyB g l a := by
  have e : l.map (nameAt (qG g)) = (l.map (nameAt g)).map qN := by
    rw [List.map_map]
    exact List.map_congr_left (fun i hi => nameAt_q (hl i hi))
  unfold readyB
  rw [e]
  have e1 : (qA a).name = qN a.name := rfl
  have e2 : (qA a).ins = a.ins.map qN := rfl
  have e3 : (qG g).srcs = g.srcs.map qN := rfl
  rw [e1, e2, e3, contains_qN, List.all_map]
  congr 1
  congr 1
  funext s
  simp only [Function.comp]
  rw [contains_qN, contains_qN]
theorem step_q {g : GrR} {l : List Nat} (hl : ∀ i ∈ l, i < g.acts.length) : stepR (qG g) l = stepR g l := by
  unfold stepR
  show (g.acts.map qA).findIdx? _ = _
  rw [List.findIdx?_map]
  congr 1
  funext a
  exact ready_q hl a
theorem orderGo_q {g : GrR} : ∀ (n : Nat) (l : List Nat), Ordd g l → orderGo (qG g) n l = orderGo g n l
  | 0, l, _ => rfl
  | n + 1, l, h => by
    unfold orderGo
    rw [step_q h.lt]
    cases hs : stepR g l with
    | none => rfl
    | some i => exact orderGo_q n _ (h.snoc hs)
theorem orderR_q (g : GrR) : orderR (qG g) = orderR g := by
  unfold orderR
  rw [q_len]
  exact orderGo_q _ _ (Ordd.nil g)
/-- The renamed build can be, if its names are short enough. -/
theorem can_q {g : GrR} (h : Can g) (h7 : ∀ s ∈ namesL g, s.length ≤ 7) : Can (qG g) := by
  obtain ⟨h1, h2, h3, h4⟩ := (grOK_iff g).1 h.w.ok
  have hsrc : ∀ s ∈ g.srcs, s.length ≤ 7 := fun s hs => h7 s (mem_names.2 (.inl hs))
  have hact : ∀ a ∈ g.acts, a.name.length ≤ 7 := fun a ha => h7 _ (by unfold namesL; exact List.mem_append_right _ (List.mem_map.2 ⟨a, ha, rfl⟩))
  refine ⟨⟨(grOK_iff _).2 ⟨by simpa [qG] using h1, by simpa [qG] using h2, fun s hs => ?_, fun a ha => ?_⟩, ?_, fun a ha s hs => ?_⟩, ?_⟩
  · obtain ⟨x, hx, rfl⟩ := List.mem_map.1 hs
    exact qN_name (h3 x hx) (hsrc x hx)
  · obtain ⟨x, hx, rfl⟩ := List.mem_map.1 ha
    obtain ⟨k1, k2, k3, k4⟩ := (actOK_iff x).1 (h4 x hx)
    refine (actOK_iff _).2 ⟨qN_name k1 (hact x hx), fun s hs => ?_, by simpa [qA] using k3, k4⟩
    obtain ⟨y, hy, rfl⟩ := List.mem_map.1 hs
    exact qN_name (k2 y hy) (h7 y (h.w.ins x hx y hy))
  · rw [names_q]
    exact map_nodup h.w.nd
  · obtain ⟨x, hx, rfl⟩ := List.mem_map.1 ha
    obtain ⟨y, hy, rfl⟩ := List.mem_map.1 hs
    rw [names_q]
    exact mem_qN.2 (h.w.ins x hx y hy)
  · rw [orderR_q, q_len]
    exact h.full
theorem qS_fst (srcs : List SrcR) : (qS srcs).map Prod.fst = ((srcs.map Prod.fst).map qN).reverse := by
  unfold qS
  rw [List.map_reverse, List.map_map, List.map_map]
  rfl
theorem done_q {g : GrR} {srcs : List SrcR} (h : Done g srcs) (h7 : ∀ s ∈ namesL g, s.length ≤ 7) : Done (qG g) (qS srcs) := by
  refine ⟨can_q h.can h7, ⟨?_, fun s => ?_⟩, fun s hs => ?_⟩
  · rw [qS_fst]
    have h1 := map_nodup h.fit.nd
    unfold List.Nodup at h1 ⊢
    rw [List.pairwise_reverse]
    exact h1.imp (fun hn e => hn e.symm)
  · rw [qS_fst, List.mem_reverse]
    constructor
    · intro hs
      obtain ⟨x, hx, rfl⟩ := List.mem_map.1 hs
      exact mem_qN.2 ((h.fit.mem x).1 hx)
    · intro hs
      obtain ⟨x, hx, rfl⟩ := List.mem_map.1 hs
      exact mem_qN.2 ((h.fit.mem x).2 hx)
  · unfold qS at hs
    rw [List.mem_reverse] at hs
    obtain ⟨x, hx, rfl⟩ := List.mem_map.1 hs
    exact h.wide x hx
/-- A renamed source's value. -/
theorem src_q {g : GrR} {srcs : List SrcR} (h : Done g srcs) (h7 : ∀ s ∈ namesL g, s.length ≤ 7) {s : Nm} (hs : s ∈ g.srcs) : valT (srcT (qS srcs)) (qN s) = valT (srcT srcs) s := by
  obtain ⟨x, hx, rfl⟩ := List.mem_map.1 ((h.fit.mem s).2 hs)
  have hq : (qN x.1, x.2) ∈ qS srcs := by
    unfold qS
    rw [List.mem_reverse]
    exact List.mem_map.2 ⟨x, hx, rfl⟩
  have e1 := srcT_mem (done_q h h7).fit.nd hq
  have e2 := srcT_mem h.fit.nd hx
  unfold valT
  simp only at e1
  rw [e1, e2]
theorem vals_q {g : GrR} {srcs : List SrcR} (h : Done g srcs) (h7 : ∀ s ∈ namesL g, s.length ≤ 7) {i : Nat} (hi : i < g.acts.length) : valT (madeS (qG g) (qS srcs)) (nameAt (qG g) i) = valT (madeS g srcs) (nameAt g i) := by
  unfold madeS
  exact made_unique (F := FF) h.can (can_q h.can h7) (q_len g) (fun i hi => codeAt_q hi) qN (fun i hi => nameAt_q hi) (fun i hi => insAt_q hi) srcs (qS srcs) (fun s hs => ⟨mem_qN.2 hs, src_q h h7 hs⟩) i hi
/-- A renamed name's value. -/
theorem val_q {g : GrR} {srcs : List SrcR} (h : Done g srcs) (h7 : ∀ s ∈ namesL g, s.length ≤ 7) {s : Nm} (hs : s ∈ namesL g) : valT (madeS (qG g) (qS srcs)) (qN s) = valT (madeS g srcs) s := by
  rcases mem_names.1 hs with h1 | ⟨i, hi, rfl⟩
  · have e := src_q h h7 h1
    unfold valT madeS at *
    rw [made_src (can_q h.can h7).w _ (mem_qN.2 h1), made_src h.can.w _ h1]
    exact e
  · rw [← nameAt_q hi]
    exact vals_q h h7 hi
theorem keys_q {g : GrR} {srcs : List SrcR} (h : Done g srcs) (h7 : ∀ s ∈ namesL g, s.length ≤ 7) {i : Nat} (hi : i < g.acts.length) : keyS (qG g) (qS srcs) i = keyS g srcs i := by
  have e : insT2 (qG g) (madeS (qG g) (qS srcs)) i = insT2 g (madeS g srcs) i := by
    unfold insT2
    rw [insAt_q hi, List.map_map]
    refine List.map_congr_left (fun s hs => ?_)
    exact val_q h h7 (h.can.w.insAt hi hs)
  unfold keyS keyK
  rw [e, codeAt_q hi]
/-- What the renamed build comes to, place by place. -/
theorem out_q {g : GrR} {srcs : List SrcR} (h : Done g srcs) (h7 : ∀ s ∈ namesL g, s.length ≤ 7) {i : Nat} (hi : i < g.acts.length) : ((outT (qG g) (qS srcs))[i]'(by rw [outT_len, q_len]; exact hi)).2 = ((outT g srcs)[i]'(by rw [outT_len]; exact hi)).2 := by
  rw [outT_get g srcs i hi, outT_get (qG g) (qS srcs) i (by rw [q_len]; exact hi)]
  show valT _ _ = valT _ _
  have e := vals_q h h7 hi
  rw [nameAt_lt g i hi, nameAt_lt (qG g) i (by rw [q_len]; exact hi)] at e
  exact e
end Go.Proofs.YthglfmacjoecgaaGreatDoor
namespace Go.Proofs.YthglfmacjoecgaaGreatDoor
open Go.RowKit

theorem elSrcN : ElT Tryz.prog 26 55 2 32 := .mk' (z := .agg #[.string ByteArray.empty, .string ByteArray.empty]) Tryz.underlying26 (by kernel_rfl) rfl (by decide) rfl
/-- The renamed build under way at block hb. -/
structure RenSt (base : Nat) (w : World) (hb : Nat) (sv av : Value) (ss : List Nm) (ps : List (ActR × Value)) : Prop where
  blk : w.heap[hb]? = some (.cells #[sv, av] 25 (0, 0))
  so : w.ownsRow 0 9 1 sv ss.length (ss.map nmV)
  ao : w.ownsRow 0 43 3 av ps.length (flatA ps)
  sg : sv.ownBlock ≠ some hb
  ag : av.ownBlock ≠ some hb
  sa : ∀ k, sv.ownBlock = some k → av.ownBlock ≠ some k
  bhb : base ≤ hb
  bsv : ∀ k, sv.ownBlock = some k → base ≤ k ∧ k < w.heap.size
  bav : ∀ k, av.ownBlock = some k → base ≤ k
  ins : ∀ p ∈ ps, NamesAt w p.2 p.1.ins ∧ ∀ k, slBlk p.2 = some k → base ≤ k ∧ k ≠ hb ∧ av.ownBlock ≠ some k ∧ k < w.heap.size
  wide : ∀ p ∈ ps, p.1.name.length ≤ 1000 ∧ p.1.code.length ≤ 1000
  widS : ∀ s ∈ ss, s.length ≤ 1000
theorem RenSt.keep {base : Nat} {w w' : World} {hb : Nat} {sv av : Value} {ss : List Nm} {ps : List (ActR × Value)} (h : RenSt base w hb sv av ss ps) {F : Nat → Prop} (hc : Chg F w w') (hF : ∀ k, k < w.heap.size → ¬ F k) : RenSt base w' hb sv av ss ps := by
  have own_lt : ∀ {e : TypeId} {size n : Nat} {v : Value} {xs : List Value}, w.ownsRow 0 e size v n xs → ∀ k, v.ownBlock = some k → k < w.heap.size := fun {e size n v xs} ho k hk => by
    rcases ho.2 with ⟨rfl, _⟩ | ⟨g, cap, cur, rfl, _, hg, _⟩
    · cases hk
    · have := own_eq hk
      subst this
      exact heap_lt hg
  exact ⟨hc.obj h.blk (hF hb (heap_lt h.blk)), hc.owns h.so (fun k hk => hF k (own_lt h.so k hk)), hc.owns h.ao (fun k hk => hF k (own_lt h.ao k hk)), h.sg, h.ag, h.sa, h.bhb,
    fun k hk => ⟨(h.bsv k hk).1, Nat.lt_of_lt_of_le (h.bsv k hk).2 hc.size⟩, h.bav, fun p hp => ⟨(h.ins p hp).1.chg' hc (fun _ k hk => hF k ((h.ins p hp).2 k hk).2.2.2), fun k hk => by
      obtain ⟨e1, e2, e3, e4⟩ := (h.ins p hp).2 k hk
      exact ⟨e1, e2, e3, Nat.lt_of_lt_of_le e4 hc.size⟩⟩, h.wide, h.widS⟩
/-- A source's name more. -/
theorem RenSt.putS {base : Nat} {w w' : World} {hb : Nat} {sv : Value} {ss : List Nm} (h : RenSt base w hb sv (.slice none 0 0) ss []) (hB : base ≤ w.heap.size) {g2 n cap : Nat} {s : Nm} (hs : s.length ≤ 1000) (hc : Chg (fun k => sv.ownBlock = some k) w w')
    (hown : w'.ownsRow 0 9 1 (.slice (some ⟨g2, 0, none⟩) n cap) n (ss.map nmV ++ [nmV s])) (hn : n = ss.length + 1) (hg : sv.ownBlock = some g2 ∨ w.heap.size ≤ g2) :
    RenSt base (w'.setCell ⟨hb, 0, none⟩ (.slice (some ⟨g2, 0, none⟩) n cap)) hb (.slice (some ⟨g2, 0, none⟩) n cap) (.slice none 0 0) (ss ++ [s]) [] := by
  have hblk := hc.obj h.blk (fun e => h.sg e)
  have hlt := heap_lt h.blk
  have hg2 : g2 ≠ hb := by
    rcases hg with e | e
    · intro e2; subst e2; exact h.sg e
    · omega
  subst hn
  have hown2 := ((Chg.refl (fun k => k = hb) w').setCell (p := ⟨hb, 0, none⟩) (fun _ => rfl) (.slice (some ⟨g2, 0, none⟩) (ss.length + 1) cap)).owns hown (fun k hk e => hg2 (by have := own_eq hk; subst this; exact e))
  refine ⟨?_, ?_, World.ownsRow_nil _ _ _ _, fun e => hg2 (own_eq e).symm, (fun e => by cases e), (fun k _ e => by cases e), h.bhb, ?_, (fun k e => by cases e), (fun p hp => by cases hp), (fun p hp => by cases hp), ?_⟩
  · simpa using heap_set_same hblk 0 (.slice (some ⟨g2, 0, none⟩) (ss.length + 1) cap)
  · rw [List.length_append, List.map_append]
    exact hown2
  · intro k hk
    obtain rfl := own_eq hk
    refine ⟨?_, heap_lt (ownsRow_heap hown2).choose_spec.1⟩
    rcases hg with e | e
    · exact (h.bsv _ e).1
    · omega
  · intro x hx
    rcases List.mem_append.1 hx with hx | hx
    · exact h.widS x hx
    · simp only [List.mem_singleton] at hx
      subst hx
      exact hs
/-- An action more. -/
theorem RenSt.putA {base : Nat} {w w' : World} {hb : Nat} {sv av : Value} {ss : List Nm} {ps : List (ActR × Value)} (h : RenSt base w hb sv av ss ps) (hB : base ≤ w.heap.size) {g2 n cap : Nat} {p : ActR × Value}
    (hpw : p.1.name.length ≤ 1000 ∧ p.1.code.length ≤ 1000) (hpn : NamesAt w p.2 p.1.ins) (hpa : ∀ k, slBlk p.2 = some k → base ≤ k ∧ k ≠ hb ∧ av.ownBlock ≠ some k ∧ k < w.heap.size)
    (hc : Chg (fun k => av.ownBlock = some k) w w') (hown : w'.ownsRow 0 43 3 (.slice (some ⟨g2, 0, none⟩) n cap) n (flatA ps ++ [strV p.1.name, p.2, strV p.1.code])) (hn : n = ps.length + 1) (hg : av.ownBlock = some g2 ∨ w.heap.size ≤ g2) :
    RenSt base (w'.setCell ⟨hb, 1, none⟩ (.slice (some ⟨g2, 0, none⟩) n cap)) hb sv (.slice (some ⟨g2, 0, none⟩) n cap) ss (ps ++ [p]) := by
  have hblk := hc.obj h.blk (fun e => h.ag e)
  have hlt := heap_lt h.blk
  have hg2 : g2 ≠ hb := by
    rcases hg with e | e
    · intro e2; subst e2; exact h.ag e
    · omega
  have hc2 : Chg (fun k => k = hb ∨ av.ownBlock = some k) w (w'.setCell ⟨hb, 1, none⟩ (.slice (some ⟨g2, 0, none⟩) n cap)) := (hc.mono (G := fun k => k = hb ∨ av.ownBlock = some k) (fun _ _ h => .inr h)).setCell (p := ⟨hb, 1, none⟩) (fun _ => .inl rfl) _
  have hins : ∀ q ∈ ps ++ [p], NamesAt w q.2 q.1.ins ∧ ∀ k, slBlk q.2 = some k → base ≤ k ∧ k ≠ hb ∧ av.ownBlock ≠ some k ∧ k < w.heap.size := by
    intro q hq
    simp only [List.mem_append, List.mem_singleton] at hq
    rcases hq with hq | rfl
    · exact h.ins q hq
    · exact ⟨hpn, hpa⟩
  refine ⟨?_, ?_, ?_, h.sg, fun e => hg2 (own_eq e).symm, ?_, h.bhb, ?_, ?_, ?_, ?_, h.widS⟩
  · simpa using heap_set_same hblk 1 (.slice (some ⟨g2, 0, none⟩) n cap)
  · exact hc2.owns h.so (fun k hk e => e.elim (fun e => h.sg (e ▸ hk)) (fun e => h.sa k hk e))
  · have := ((Chg.refl (fun k => k = hb) w').setCell (p := ⟨hb, 1, none⟩) (fun _ => rfl) (.slice (some ⟨g2, 0, none⟩) n cap)).owns hown (fun k hk e => hg2 (by have := own_eq hk; subst this; exact e))
    rw [hn] at this ⊢
    rw [flatA_append]
    simpa using this
  · intro k hk e
    obtain rfl := own_eq e
    rcases hg with e2 | e2
    · exact h.sa _ hk e2
    · have := (h.bsv _ hk).2; omega
  · intro k hk
    exact ⟨(h.bsv k hk).1, Nat.lt_of_lt_of_le (h.bsv k hk).2 hc2.size⟩
  · intro k hk
    obtain rfl := own_eq hk
    rcases hg with e2 | e2
    · exact h.bav _ e2
    · omega
  · intro q hq
    obtain ⟨h1, h2⟩ := hins q hq
    refine ⟨h1.chg' hc2 (fun _ k hk e => e.elim (fun e => (h2 k hk).2.1 e) (fun e => (h2 k hk).2.2.1 e)), fun k hk => ⟨(h2 k hk).1, (h2 k hk).2.1, ?_, Nat.lt_of_lt_of_le (h2 k hk).2.2.2 hc2.size⟩⟩
    intro e
    obtain rfl := own_eq e
    rcases hg with e2 | e2
    · exact (h2 _ hk).2.2.1 e2
    · have := (h2 _ hk).2.2.2; omega
  · intro q hq
    simp only [List.mem_append, List.mem_singleton] at hq
    rcases hq with hq | rfl
    · exact h.wide q hq
    · exact hpw
theorem RenSt.gr {base : Nat} {w : World} {hb : Nat} {sv av : Value} {ss : List Nm} {ps : List (ActR × Value)} (h : RenSt base w hb sv av ss ps) (h1 : ss.length ≤ 1000) (h2 : ps.length ≤ 1000) : GrAt w (.agg #[sv, av]) ⟨ss, ps.map Prod.fst⟩ := by
  refine ⟨sv, av, _, rfl, NamesAt.of_owns h.so (show ss.length ≤ maxLen by unfold maxLen; omega) (fun s hs => by have := h.widS s hs; unfold maxLen; omega), ActsAt.of_owns h.ao (by unfold maxLen; omega) (fun p hp => (h.ins p hp).1) (fun p hp => by have := h.wide p hp; unfold maxLen; omega)⟩
def qS1 (s : SrcR) : SrcR := (qN s.1, s.2)
theorem drop_rev (srcs : List SrcR) (n : Nat) (h : n < srcs.length) : ((srcs.drop n).map qS1).reverse = ((srcs.drop (n + 1)).map qS1).reverse ++ [qS1 srcs[n]] := by
  rw [List.drop_eq_getElem_cons h, List.map_cons, List.reverse_cons]
theorem qS1_all (srcs : List SrcR) : ((srcs.drop 0).map qS1).reverse = qS srcs := rfl
theorem qS_mem {srcs : List SrcR} {s : SrcR} (h : s ∈ qS srcs) : ∃ x ∈ srcs, s = (qN x.1, x.2) := by
  unfold qS at h
  rw [List.mem_reverse] at h
  obtain ⟨x, hx, rfl⟩ := List.mem_map.1 h
  exact ⟨x, hx, rfl⟩
theorem load_res2 {w : World} {b off : Nat} {x y : Value} (h0 : w.cell? ⟨b, off, none⟩ = some x) (h1 : w.cell? ⟨b, off + 1, none⟩ = some y) : (loadVar 47 ⟨b, off, none⟩).run Tryz.prog w = .ok (.agg #[x, y]) w := by
  simp [go_sem, h0, h1]
theorem neq_res_same (a : ResR) (ha : (Lit.int .i64 a.1).wf = true) (ha2 : a.2.size ≤ maxLen) (w : World) :
    (binOp .neq 47 (.agg #[.int .i64 a.1, .string a.2]) (.agg #[.int .i64 a.1, .string a.2])).run Tryz.prog w = .ok (.bool false) w := by
  have hf : ∀ r : ResR, (resW r).formed Tryz.prog 47 = true := fun r => by kernel_rfl
  obtain ⟨r, e1, e2⟩ := run_equalIn_deep (P := Tryz.prog) 9998 2 47 (by kernel_rfl) w 2 2 (resW a) (resW a) _ _ (hf a) (hf a) (lits_res a ha ha2) (lits_res a ha ha2)
  rw [e2.2 rfl] at e1
  unfold resW at e1
  rw [run_neq_struct, e1]
  rfl
theorem wf_small4 {r : ResR} (h : Small r) : (Lit.int .i64 r.1).wf = true := by
  have h1 := h.lo
  have h2 := h.hi
  simp [Lit.wf, IntKind.min, IntKind.max, IntKind.signed, IntKind.bits]
  omega
theorem SrcsAt.of_owns2 {w : World} {v : Value} {xs : List SrcR} {n : Nat} (hn : n = xs.length) (h : w.ownsRow 0 55 2 v n (xs.flatMap srcL)) (hl : xs.length ≤ 1000) (hw : ∀ s ∈ xs, s.1.length ≤ maxLen ∧ s.2.size ≤ maxLen) : SrcsAt w v xs := by
  subst hn
  exact ⟨rows_of_owns srcL noSrc xs (fun _ => rfl) h (by unfold maxLen; omega), hw⟩
theorem bs_q (s : Nm) : (⟨#[113]⟩ : ByteArray) ++ bs s = bs (qN s) := by
  show _ = bs ([113] ++ s)
  rw [bs_append]
  rfl
set_option maxRecDepth 100000 in
set_option maxHeartbeats 8000000 in
theorem onames_any {B : Nat} (g : GrR) (srcs : List SrcR) (v sv0 : Value) (w : World) (hg : GrAt w v g) (hss : SrcsAt w sv0 srcs) (hT : TabsOK B w) (hB : B ≤ w.heap.size) : Calls Tryz.prog 5 #[v, sv0] w (Rets (.bool true) (Chg (fun _ => False) w)) := by
  obtain ⟨oa, c, ob, d, iv, rfl, hs, ha⟩ := hg.form
  obtain ⟨os, cs, rfl⟩ := hss.form
  have hms := hss.rows.le
  have hmg := hs.le
  have hma := ha.rows.le
  unfold maxLen at hms hmg hma
  have hC1 : Chg (fun _ => False) w (w.alloc (.cells #[.slice oa g.srcs.length c, .slice ob g.acts.length d] 25)) := (Chg.refl _ w).alloc _
  have hgb := heap_alloc_new' w (.cells #[.slice oa g.srcs.length c, .slice ob g.acts.length d] 25)
  have HG := hid hg
  have HS := hid hs
  have HA := hid ha
  have HSS := hid hss
  have HC1 := hid hC1
  have HGB := hid hgb
  have HT := hid hT
  have HBB := hid hB
  clear hg hs ha hss hC1 hgb hT hB
  go_enter Tryz.func5, Tryz.ntmps5
  go_wp2_with fail
  refine (oawake_any _ (HT.out.keep HC1.out) (Nat.le_trans HBB.out HC1.out.size)).mono ?_
  rintro e w2 ⟨rfl, hc2⟩
  have HC2 := hid (HC1.out.trans hc2 (fun _ _ h => h))
  have HG2 := hid (hc2.obj HGB.out (fun h => h))
  clear hc2 HC1 HGB
  obtain ⟨gb, hgb⟩ : ∃ gb, gb = w.heap.size := ⟨_, rfl⟩
  rw [← hgb] at HG2 ⊢
  clear hgb
  have a0 := cell_of HG2.out 0
  have a1 := cell_of HG2.out 1
  simp at a0 a1
  go_wp2_with fail
  refine (ogreat_any g srcs _ _ _ (HG.out.chg HC2.out (fun _ _ h => h)) (HSS.out.chg HC2.out (fun _ _ h => h))).mono ?_
  rintro e w3 ⟨b3, rfl, hc3⟩
  have HC3 := hid (HC2.out.trans hc3 (fun _ _ h => h))
  have HG3 := hid (hc3.obj HG2.out (fun h => h))
  clear hc3 a0 a1 HC2 HG2
  cases b3 with
  | true =>
    go_wp2_with fail
    go_ret
    exact ⟨rfl, HC3.out⟩
  | false =>
  have a0 := cell_of HG3.out 0
  have a1 := cell_of HG3.out 1
  simp at a0 a1
  go_wp2_with fail
  refine (obuild_any g srcs _ _ _ (HG.out.chg HC3.out (fun _ _ h => h)) (HSS.out.chg HC3.out (fun _ _ h => h)) (HT.out.keep HC3.out) (Nat.le_trans HBB.out HC3.out.size)).mono ?_
  rintro e w4 ⟨hc4, v4, rfl, hb4⟩
  have HC4 := hid (HC3.out.trans hc4 (fun _ _ h => h))
  have HG4 := hid (hc4.obj HG3.out (fun h => h))
  have HA4 := hid hb4
  clear hc4 a0 a1 HC3 HG3 hb4
  have a0 := cell_of HG4.out 0
  have a1 := cell_of HG4.out 1
  simp at a0 a1
  go_wp2_with fail
  refine (okeys_any g srcs _ _ _ (HG.out.chg HC4.out (fun _ _ h => h)) (HSS.out.chg HC4.out (fun _ _ h => h)) (HT.out.keep HC4.out) (Nat.le_trans HBB.out HC4.out.size)).mono ?_
  rintro e w5 ⟨hc5, v5, rfl, hb5⟩
  have HC5 := hid (HC4.out.trans hc5 (fun _ _ h => h))
  have HG5 := hid (hc5.obj HG4.out (fun h => h))
  have HA5 := hid (HA4.out.chg hc5 (fun _ _ h => h))
  have HX5 := hid hb5
  clear hc5 a0 a1 HC4 HG4 hb5 HA4
  by_cases hz : ¬ checkS g srcs = 0
  · have hbe : ((checkS g srcs : Int) == 0) = false := by rw [beq_eq_false_iff_ne]; omega
    clear HA5 HX5
    generalize checkS g srcs = cz at *
    go_wp2_with fail
    go_ret
    exact ⟨rfl, HC5.out⟩
  have hz := Decidable.not_not.1 hz
  have HD := hid (checkS_zero.1 hz)
  have ho : outS g srcs = outT g srcs := if_pos hz
  have hcn : cntS g srcs = g.acts.length := if_pos hz
  rw [ho] at HA5
  rw [hcn] at HX5
  rw [hz]
  clear hz ho hcn
  have hl8 := HD.out.can.w.srcs8
  have hl12 := HD.out.can.w.acts12
  have hls8 : srcs.length ≤ 8 := by
    have h1 := nodup_le _ _ HD.out.fit.nd (fun s hs => (HD.out.fit.mem s).1 hs)
    simp at h1
    omega
  obtain ⟨oa4, ca4, rfl⟩ := HA5.out.form
  obtain ⟨ob5, cb5, rfl⟩ := HX5.out.form
  rw [outT_len]
  clear hms hmg hma
  have hbase : RenSt w5.heap.size (w5.alloc (.cells #[.slice none 0 0, .slice none 0 0] 25)) w5.heap.size (.slice none 0 0) (.slice none 0 0) [] [] :=
    ⟨heap_alloc_new' w5 _, World.ownsRow_nil _ _ _ _, World.ownsRow_nil _ _ _ _, (fun e => by cases e), (fun e => by cases e), (fun k e => by cases e), Nat.le_refl _, (fun k e => by cases e), (fun k e => by cases e), (fun p hp => by cases hp), (fun p hp => by cases hp), (fun s hs => by cases hs)⟩
  have HR0 := hid hbase
  have HCA := hid (al_chg w5 (.cells #[.slice none 0 0, .slice none 0 0] 25))
  clear hbase
  go_upto_region 11 with fail
  obtain ⟨hb, hhb⟩ : ∃ hb, hb = w5.heap.size := ⟨_, rfl⟩
  have HHB : Hid (hb = w5.heap.size) := hid hhb
  rw [← hhb] at HR0 ⊢
  clear hhb
  generalize w5.alloc (.cells #[.slice none 0 0, .slice none 0 0] 25) = w6 at *
  go_loopw [10, 11] (fun i _ wr => ∃ (k : Nat) (sv : Value), k ≤ g.srcs.length ∧ i = .int .i64 k ∧ RenSt hb wr hb sv (.slice none 0 0) ((g.srcs.take k).map qN) [] ∧ Chg (fun _ => False) w5 wr ∧ (∀ s ∈ g.srcs.take k, s.length ≤ 7)) (fun i _ _ => g.srcs.length - (intOf i).toNat)
  case atStart => exact ⟨0, _, Nat.zero_le _, rfl, HR0.out, HCA.out, by simp⟩
  case round =>
    obtain ⟨k, sv, hk, rfl, hst, hch, hall⟩ := hrel
    have HST := hid hst
    have HCH := hid hch
    have HALL := hid hall
    have a0 := cell_of (hch.obj HG5.out (fun h => h)) 0
    have a1 := cell_of (hch.obj HG5.out (fun h => h)) 1
    simp at a0 a1
    clear hst hch hall
    by_cases hkn : k < g.srcs.length
    · have hkn' : (k : Int) < g.srcs.length := by omega
      obtain ⟨ad, hix, hadc, hadb⟩ := (HS.out.chg (HC5.out.trans HCH.out (fun _ _ h => h)) (fun _ _ h => h)).ix k hkn
      have HTK : Hid ((g.srcs.take (k + 1)).map qN = (g.srcs.take k).map qN ++ [qN g.srcs[k]]) := hid (by rw [List.take_succ_eq_append_getElem hkn, List.map_append]; rfl)
      have HAL : Hid (g.srcs[k].length ≤ 7 → ∀ s ∈ g.srcs.take (k + 1), s.length ≤ 7) := hid (fun h s hs => by
        rw [List.take_succ_eq_append_getElem hkn] at hs
        rcases List.mem_append.1 hs with hs | hs
        · exact HALL.out s hs
        · simp only [List.mem_singleton] at hs
          subst hs
          exact h)
      have hln := name_le HD.out.can.w (mem_names.2 (.inl (List.getElem_mem hkn)))
      have hbq := bs_q g.srcs[k]
      have hszq := bs_size (qN g.srcs[k])
      rw [qN_len] at hszq
      have hszn := bs_size g.srcs[k]
      have hzl : ((List.take k g.srcs).map qN).length ≤ 8 := by simp; omega
      have hzk : ((List.take k g.srcs).map qN).length = k := by simp; omega
      generalize hnm : g.srcs[k] = nm at *
      have HBQ := hid hbq
      have hadd1 : ¬ 9223372036854775807 < 1 + (bs nm).size := by omega
      have hadd2 : ¬ 9223372036854775807 < (⟨#[113]⟩ : ByteArray).size + (bs nm).size := hadd1
      by_cases h8 : nm.length ≤ 7
      · have h8' : ¬ (8 : Int) < 1 + ((bs nm).size : Int) := by omega
        have HL7 := hid (HAL.out h8)
        have e0 := cell_of HST.out.blk 0
        simp at e0
        clear hbq hszq hszn hnm HAL
        have e00 := e0
        go_wp2_with (guard_target =~ wpList _ _ _ (Oper.mk (some 64) _ _ _ _ _ :: _) _ _; refine wpList_append_new rfl _ _ 22 rfl elStr HST.out.so rfl #[.string ((⟨#[113]⟩ : ByteArray) ++ bs nm)] 1 1 rfl rfl rfl (by unfold maxLen; omega) (by omega) (by decide) ?_; intro g6 cap6 w7 hown7 hch7 hg7; have e7 := cell_of (hch7.obj HST.out.blk (fun e => HST.out.sg e)) 0; have f7 := frozen_of (hch7.obj HST.out.blk (fun e => HST.out.sg e)) 0; simp at e7)
        go_roundw
        case rel =>
          rw [HBQ.out] at hown7
          have hB : hb ≤ wr.heap.size := Nat.le_of_lt (heap_lt HST.out.blk)
          have hnew := HST.out.putS hB (s := qN nm) (by rw [qN_len]; omega) hch7 hown7 rfl hg7
          rw [hzk] at hnew
          refine ⟨k + 1, _, by omega, by go_num, by rw [HTK.out]; exact hnew, (HCH.out.trans hch7 (fun z hz e => ?_)).setCell (p := ⟨hb, 0, none⟩) (fun h => ?_) _, HL7.out⟩
          · have := (HST.out.bsv _ e).1
            have := HHB.out
            omega
          · have := HHB.out
            simp at h
            omega
        case measure => simp [intOf]; omega
      · have h8' : (8 : Int) < 1 + ((bs nm).size : Int) := by omega
        clear hbq hszq hszn hnm HAL
        go_wp2_with fail
        go_ret
        exact ⟨rfl, HC5.out.trans HCH.out (fun _ _ h => h)⟩
    · obtain rfl : k = g.srcs.length := by omega
      have hst := HST.out
      have hall := HALL.out
      rw [List.take_length] at hst hall
      have HS1 := hid hst
      have HAL1 := hid hall
      clear hst hall HST HALL HR0 HCA a0 a1
      have hml : (g.srcs.map qN).length = g.srcs.length := by simp
      have a0 := cell_of (HCH.out.obj HG5.out (fun h => h)) 0
      have a1 := cell_of (HCH.out.obj HG5.out (fun h => h)) 1
      simp at a0 a1
      go_upto_region 18 with fail
      clear a0 a1
      obtain ⟨wo, hwo⟩ : ∃ wo, wo = wr := ⟨_, rfl⟩
      rw [← hwo] at HCH HS1 ⊢
      clear hwo
      go_loopw [12, 13, 14, 15] (fun i _ _ _ wr => ∃ (k : Nat) (av : Value) (ps : List (ActR × Value)), k ≤ g.acts.length ∧ i = .int .i64 k ∧ RenSt hb wr hb sv av (g.srcs.map qN) ps ∧ ps.map Prod.fst = (g.acts.take k).map qA ∧ Chg (fun _ => False) w5 wr ∧ (∀ a ∈ g.acts.take k, a.name.length ≤ 7)) (fun i _ _ _ _ => g.acts.length - (intOf i).toNat)
      case atStart => exact ⟨0, _, [], Nat.zero_le _, rfl, HS1.out, rfl, HCH.out, by simp⟩
      case round =>
       obtain ⟨k, av, ps, hk, rfl, hst, hps, hch, hall⟩ := hrel
       have HST := hid hst
       have HPS := hid hps
       have HCX := hid hch
       have HALL := hid hall
       have a1 := cell_of (hch.obj HG5.out (fun h => h)) 1
       simp at a1
       clear hst hps hch hall
       by_cases hkn : k < g.acts.length
       · have hkn' : (k : Int) < g.acts.length := by omega
         obtain ⟨bb, oo, hix, hlt, e0, e1, e2, hns, hw1, hw2⟩ := (HA.out.chg (HC5.out.trans HCX.out (fun _ _ h => h)) (fun _ _ h => h)).at k hkn
         obtain ⟨oi, ci, hiv⟩ := hns.form
         rw [hiv] at e1 hns
         have hsm := act_small HD.out.can.w hkn
         have HTK : Hid ((g.acts.take (k + 1)).map qA = (g.acts.take k).map qA ++ [qA g.acts[k]]) := hid (by rw [List.take_succ_eq_append_getElem hkn, List.map_append]; rfl)
         have HAL : Hid (g.acts[k].name.length ≤ 7 → ∀ a ∈ g.acts.take (k + 1), a.name.length ≤ 7) := hid (fun h a ha => by
           rw [List.take_succ_eq_append_getElem hkn] at ha
           rcases List.mem_append.1 ha with ha | ha
           · exact HALL.out a ha
           · simp only [List.mem_singleton] at ha
             subst ha
             exact h)
         have hln := name_le HD.out.can.w (mem_names.2 (.inr ⟨k, hkn, nameAt_lt g k hkn⟩))
         have HLI : Hid (∀ s ∈ g.acts[k].ins, s.length ≤ 8) := hid (fun s hs => name_le HD.out.can.w (HD.out.can.w.ins _ (List.getElem_mem hkn) s hs))
         have HQA : Hid (qA g.acts[k] = ⟨qN g.acts[k].name, g.acts[k].ins.map qN, g.acts[k].code⟩) := hid rfl
         have hpl : ps.length = k := by
           have := congrArg List.length HPS.out
           simp at this
           omega
         have HPL := hid hpl
         clear hiv hw1 hw2 hpl
         generalize hnm : g.acts[k].name = nm at *
         generalize hcd : g.acts[k].code = cd at *
         generalize hins : g.acts[k].ins = ins at *
         have hbq := bs_q nm
         have hszn := bs_size nm
         have HBQ := hid hbq
         have hadd1 : ¬ 9223372036854775807 < 1 + (bs nm).size := by omega
         have hadd2 : ¬ 9223372036854775807 < (⟨#[113]⟩ : ByteArray).size + (bs nm).size := hadd1
         have HX7 := hid (heap_alloc_new' wr (.cells #[.string (bs nm), .slice oi ins.length ci, .string (bs cd)] 43))
         have hal7 := al_chg wr (.cells #[.string (bs nm), .slice oi ins.length ci, .string (bs cd)] 43)
         have HNW := hid hns
         have HAL7 := hid hal7
         have HC7 := hid (HCX.out.trans hal7 (fun _ _ h => h))
         have HS7 : Hid ((wr.alloc (.cells #[.string (bs nm), .slice oi ins.length ci, .string (bs cd)] 43)).heap.size = wr.heap.size + 1) := hid (by simp)
         clear hal7 hns hbq hnm hcd hins
         go_upto_region 21 with fail
         generalize wr.alloc (.cells #[.string (bs nm), .slice oi ins.length ci, .string (bs cd)] 43) = W7 at *
         obtain ⟨ba, hba⟩ : ∃ ba, ba = wr.heap.size := ⟨_, rfl⟩
         rw [← hba] at HX7 HS7 ⊢
         have HBA : Hid (ba = wr.heap.size ∧ hb < ba) := hid ⟨hba, by rw [hba]; exact heap_lt HST.out.blk⟩
         clear hba hix e0 e1 e2 a1
         have x0 := cell_of HX7.out 0
         have x1 := cell_of HX7.out 1
         have xf0 := frozen_of HX7.out 0
         simp at x0 x1
         by_cases h8 : nm.length ≤ 7
         · have h8' : ¬ (8 : Int) < 1 + ((bs nm).size : Int) := by omega
           have HL7 := hid (HAL.out h8)
           clear HAL hszn
           have hc8 : Chg (fun _ => False) wr (W7.setCell ⟨ba, 0, none⟩ (.string ((⟨#[113]⟩ : ByteArray) ++ bs nm))) := HAL7.out.setCell (p := ⟨ba, 0, none⟩) (fun h => by have := HBA.out; simp at h; omega) _
           have hx8 := heap_set_same HX7.out 0 (.string ((⟨#[113]⟩ : ByteArray) ++ bs nm))
           have hs8 : (W7.setCell ⟨ba, 0, none⟩ (.string ((⟨#[113]⟩ : ByteArray) ++ bs nm))).heap.size = ba + 1 := by simp [World.setCell, HS7.out]
           simp only [List.setIfInBounds_toArray, List.set_cons_zero] at hx8
           have HC8 := hid hc8
           have HX8 := hid hx8
           have HS8 := hid hs8
           clear hc8 hx8 hs8
           go_upto_region 24 with fail
           rw [HBQ.out] at HC8 HX8 HS8 ⊢
           clear x0 x1 xf0 h8'
           generalize W7.setCell ⟨ba, 0, none⟩ (.string (bs (qN nm))) = W8 at *
           go_upto_region 26 with fail
           have HO9 := hid (owns_emptyM W8 9 1)
           have HC9 := hid (HC8.out.alloc (.cells #[] 9))
           have HX9 := hid (heap_alloc_old' HX8.out (.cells #[] 9))
           rw [HS8.out] at HO9 ⊢
           generalize W8.alloc (.cells #[] 9) = W9 at *
           clear HX7 HS7 HX8 HS8 HC8 HAL7 HC7
           have hi4 : ins.length ≤ 4 := hsm.1
           obtain ⟨wo2, hwo2⟩ : ∃ wo2, wo2 = wr := ⟨_, rfl⟩
           rw [← hwo2] at HC9 HNW HST HCX HBA
           clear hwo2
           go_loopw [14, 15] (fun v14 i wx => ∃ (q : Nat) (x : Value), x = v14 ∧ q ≤ ins.length ∧ i = .int .i64 q ∧ wx.ownsRow 0 9 1 x q (((ins.take q).map qN).map nmV) ∧ (∀ z, x.ownBlock = some z → ba + 1 ≤ z) ∧ Chg (fun _ => False) wo2 wx ∧ wx.heap[ba]? = some (.cells #[.string (bs (qN nm)), .slice oi ins.length ci, .string (bs cd)] 43 (0, 0))) (fun _ i _ => ins.length - (intOf i).toNat)
           case atStart => exact ⟨0, _, rfl, Nat.zero_le _, rfl, HO9.out, (fun z hz => by obtain rfl := own_eq hz; exact Nat.le_refl _), HC9.out, HX9.out⟩
           case round =>
            obtain ⟨q, x14, hx14, hq, rfl, hown, hbl, hcx, hxx⟩ := hrel
            subst hx14
            have HOWN := hid hown
            have HBL := hid hbl
            have HCY := hid hcx
            have HXX := hid hxx
            have x1 := cell_of hxx 1
            simp at x1
            clear hown hbl hcx hxx
            by_cases hqn : q < ins.length
            · have hqn' : (q : Int) < ins.length := by omega
              obtain ⟨ad3, hix3, hadc3, hadb3⟩ := (HNW.out.chg HCY.out (fun _ _ h => h)).ix q hqn
              have HTQ : Hid (((ins.take (q + 1)).map qN).map nmV = ((ins.take q).map qN).map nmV ++ [nmV (qN ins[q])]) := hid (by rw [List.take_succ_eq_append_getElem hqn, List.map_append, List.map_append]; rfl)
              have hl3 := HLI.out _ (List.getElem_mem hqn)
              generalize ins[q] = s3 at *
              have HB3 := hid (bs_q s3)
              have hsz3 := bs_size s3
              have hadd3 : ¬ 9223372036854775807 < 1 + (bs s3).size := by omega
              have hadd4 : ¬ 9223372036854775807 < (⟨#[113]⟩ : ByteArray).size + (bs s3).size := hadd3
              clear hsz3
              go_wp2_with (guard_target =~ wpList _ _ _ (Oper.mk (some 105) _ _ _ _ _ :: _) _ _; refine wpList_append_new rfl _ _ 22 rfl elStr HOWN.out rfl #[.string ((⟨#[113]⟩ : ByteArray) ++ bs s3)] 1 1 rfl rfl rfl (by unfold maxLen; omega) (by omega) (by decide) ?_; intro g6 cap6 w7 hown7 hch7 hg7)
              go_roundw
              case rel =>
                rw [HB3.out] at hown7
                refine ⟨q + 1, _, rfl, by omega, by go_num, by rw [HTQ.out]; exact hown7, fun z hz => ?_, HCY.out.trans hch7 (fun z hz e => by have := HBL.out z e; have := HBA.out; omega), hch7.obj HXX.out (fun e => by have := HBL.out _ e; omega)⟩
                obtain rfl := own_eq hz
                rcases hg7 with h | h
                · exact HBL.out _ h
                · have h1 := heap_lt HXX.out
                  omega
              case measure => simp [intOf]; omega
            · obtain rfl : q = ins.length := by omega
              have hown2 := HOWN.out
              rw [List.take_length] at hown2
              have HOW2 := hid hown2
              clear hown2 HOWN
              obtain ⟨o14, c14, rfl⟩ := own_form HOW2.out
              have hfx := frozen_of HXX.out 1
              have hc10 : Chg (fun _ => False) wo2 (wr.setCell ⟨ba, 1, none⟩ (.slice o14 ins.length c14)) := HCY.out.setCell (p := ⟨ba, 1, none⟩) (fun h => by have := HBA.out; simp at h; omega) _
              have hx10 := heap_set_same HXX.out 1 (.slice o14 ins.length c14)
              simp only [List.setIfInBounds_toArray, List.set_cons_zero, List.set_cons_succ] at hx10
              have ho10 := ((Chg.refl (fun z => z = ba) wr).setCell (p := ⟨ba, 1, none⟩) (fun _ => rfl) (.slice o14 ins.length c14)).owns HOW2.out (fun z hz e => by have := HBL.out z hz; omega)
              have HC10 := hid hc10
              have HX10 := hid hx10
              have HO10 := hid ho10
              clear hc10 hx10 ho10
              go_upto_region 30 with fail
              clear hfx x1
              generalize wr.setCell ⟨ba, 1, none⟩ (.slice o14 ins.length c14) = W10 at *
              clear HCY HXX HOW2 HO9 HC9 HX9
              have HR10 := hid (HST.out.keep HC10.out (fun _ _ h => h))
              have z0 := cell_of HX10.out 0
              have z1 := cell_of HX10.out 1
              have z2 := cell_of HX10.out 2
              simp at z0 z1 z2
              have HNI : Hid (NamesAt W10 (.slice o14 ins.length c14) (ins.map qN)) := hid (names_own (l := ins.map qN) (by simpa using HO10.out) (by simp; omega) (fun s hs => by
                obtain ⟨y, hy, rfl⟩ := List.mem_map.1 hs
                have := HLI.out y hy
                rw [qN_len]
                omega))
              have HNB : Hid (∀ z, slBlk (.slice o14 ins.length c14) = some z → hb ≤ z ∧ z ≠ hb ∧ av.ownBlock ≠ some z ∧ z < W10.heap.size) := hid (fun z hz => by
                rcases HO10.out.2 with ⟨h1, _⟩ | ⟨g, cap, cur, h1, _, hg, _⟩
                · rw [h1] at hz; cases hz
                · rw [h1] at hz
                  have hzg : z = g := by
                    have h9 := hz
                    simp only [slBlk, Option.some.injEq] at h9
                    exact h9.symm
                  subst hzg
                  have hb1 := HBL.out z (by rw [h1]; rfl)
                  refine ⟨by have := HBA.out; omega, by have := HBA.out; omega, fun e => ?_, heap_lt hg⟩
                  have hlt : z < wo2.heap.size := by
                    rcases HST.out.ao.2 with ⟨h2, _⟩ | ⟨g2, cap2, cur2, h2, _, hg2, _⟩
                    · rw [h2] at e; cases e
                    · rw [h2] at e
                      have := own_eq e
                      subst this
                      exact heap_lt hg2
                  have := HBA.out
                  omega)
              have y1 := cell_of HR10.out.blk 1
              simp at y1
              have hpl12 : ps.length ≤ 12 := by have := HPL.out; omega
              go_wp2_with (guard_target =~ wpList _ _ _ (Oper.mk (some 112) _ _ _ _ _ :: _) _ _; refine wpList_append_new rfl _ _ 23 rfl elAct HR10.out.ao rfl #[.string (bs (qN nm)), .slice o14 ins.length c14, .string (bs cd)] 1 1 rfl rfl rfl (by unfold maxLen; omega) (by omega) (by decide) ?_; intro g6 cap6 w7 hown7 hch7 hg7; have y7 := cell_of (hch7.obj HR10.out.blk (fun e => HR10.out.ag e)) 1; have f7 := frozen_of (hch7.obj HR10.out.blk (fun e => HR10.out.ag e)) 1; simp at y7)
              go_roundw
              case rel =>
                have hnew := HR10.out.putA (Nat.le_of_lt (heap_lt HR10.out.blk)) (p := (⟨qN nm, ins.map qN, cd⟩, .slice o14 ins.length c14)) ⟨by show (qN nm).length ≤ 1000; rw [qN_len]; omega, by show cd.length ≤ 1000; have := hsm.2; omega⟩ HNI.out HNB.out hch7 hown7 rfl hg7
                refine ⟨k + 1, _, _, by omega, by go_num, hnew, ?_, ((HCX.out.trans HC10.out (fun _ _ h => h)).trans hch7 (fun z hz e => ?_)).setCell (p := ⟨hb, 1, none⟩) (fun h => ?_) _, HL7.out⟩
                · rw [List.map_append, HPS.out, HTK.out, HQA.out]
                  rfl
                · have h1 := HR10.out.bav _ e
                  have h2 := HHB.out
                  omega
                · have := HHB.out
                  simp at h
                  omega
              case measure => simp [intOf]; omega
         · have h8' : (8 : Int) < 1 + ((bs nm).size : Int) := by omega
           clear HAL hszn
           go_wp2_with fail
           go_ret
           refine ⟨rfl, (HC5.out.trans HC7.out (fun _ _ h => h)).setCell (p := ⟨ba, 0, none⟩) (fun h => ?_) _⟩
           have h1 := HBA.out
           have h2 := HHB.out
           have h3 := HC5.out.size
           simp at h
           omega
       · obtain rfl : k = g.acts.length := by omega
         have hps := HPS.out
         have hall := HALL.out
         rw [List.take_length] at hps hall
         have hpl : ps.length = g.acts.length := by simpa using congrArg List.length hps
         have h7 : ∀ s ∈ namesL g, s.length ≤ 7 := fun s hs => by
           rcases List.mem_append.1 hs with hs | hs
           · exact HAL1.out s hs
           · obtain ⟨a, ha2, rfl⟩ := List.mem_map.1 hs
             exact hall a ha2
         have hgr : GrAt wr (.agg #[sv, av]) (qG g) := by
           have h := HST.out.gr (by simp; omega) (by omega)
           rw [hps] at h
           exact h
         have hblk := HST.out.blk
         have HGR := hid hgr
         have HBLK := hid hblk
         have H7 := hid h7
         have HCW := hid (HC5.out.trans HCX.out (fun _ _ h => h))
         have hbl : hb < wr.heap.size := heap_lt hblk
         clear hps hall hgr hblk h7 HPS HALL HST hpl a1
         have a1 := cell_of (HCX.out.obj HG5.out (fun h => h)) 1
         simp at a1
         have hlenS := HSS.out.len
         go_upto_region 33 with fail
         clear a1 hlenS
         have HO3 := hid (owns_emptyM wr 55 2)
         have HC3 := hid (al_chg wr (.cells #[] 55))
         have HS3 : Hid ((wr.alloc (.cells #[] 55)).heap.size = wr.heap.size + 1) := hid (by simp)
         obtain ⟨wo3, hwo3⟩ : ∃ wo3, wo3 = wr := ⟨_, rfl⟩
         rw [← hwo3] at HO3 HC3 HS3 HGR HBLK HCW HCX hbl ⊢
         clear hwo3
         generalize wo3.alloc (.cells #[] 55) = w10 at *
         obtain ⟨b16, hb16⟩ : ∃ b16, b16 = wo3.heap.size := ⟨_, rfl⟩
         rw [← hb16] at HO3 HS3 ⊢
         have HB16 := hid hb16
         clear hb16
         go_loopw [16, 17] (fun v16 i wx => ∃ (v : Int) (j : Nat) (x : Value), x = v16 ∧ i = .int .i64 v ∧ v = (j : Int) - 1 ∧ j ≤ srcs.length ∧ wx.ownsRow 0 55 2 x (srcs.length - j) (((srcs.drop j).map qS1).reverse.flatMap srcL) ∧ (∀ z, x.ownBlock = some z → b16 ≤ z) ∧ Chg (fun _ => False) wo3 wx) (fun _ i _ => (intOf i + 1).toNat)
         case atStart => exact ⟨_, srcs.length, _, rfl, rfl, rfl, Nat.le_refl _, by rw [Nat.sub_self, List.drop_length]; exact HO3.out, (fun z hz => by obtain rfl := own_eq hz; exact Nat.le_refl _), HC3.out⟩
         case round =>
          obtain ⟨vi, j, x16, hx16, rfl, hvj, hj, hown, hbl2, hcx⟩ := hrel
          subst hx16
          have HOWN := hid hown
          have HBL := hid hbl2
          have HCY := hid hcx
          have HVJ := hid hvj
          clear hown hbl2 hcx hvj
          by_cases hv0 : 0 ≤ vi
          · obtain ⟨n, rfl⟩ := Int.eq_ofNat_of_zero_le hv0
            have hjn : j = n + 1 := by have := HVJ.out; omega
            subst hjn
            have hns : n < srcs.length := by omega
            have hns' : (n : Int) < srcs.length := by omega
            obtain ⟨bb, oo, hix, e0, e1, hlt⟩ := (HSS.out.chg (HCW.out.trans HCY.out (fun _ _ h => h)) (fun _ _ h => h)).ix n hns
            have HDR := hid (drop_rev srcs n hns)
            have hwd := HSS.out.wide _ (List.getElem_mem hns)
            have hln : srcs[n].1.length ≤ 8 := name_le HD.out.can.w (mem_names.2 (.inl ((HD.out.fit.mem _).1 (List.mem_map.2 ⟨_, List.getElem_mem hns, rfl⟩))))
            have HQS : Hid (srcL (qS1 srcs[n]) = [.string (bs (qN srcs[n].1)), .string srcs[n].2]) := hid rfl
            generalize srcs[n].1 = nm at *
            generalize srcs[n].2 = bl2 at *
            have HBQ := hid (bs_q nm)
            have hszn := bs_size nm
            have hadd1 : ¬ 9223372036854775807 < 1 + (bs nm).size := by omega
            have hadd2 : ¬ 9223372036854775807 < (⟨#[113]⟩ : ByteArray).size + (bs nm).size := hadd1
            have hk11 := heap_alloc_new' wr (.cells #[.string (bs nm), .string bl2] 55)
            have hc11 := al_chg wr (.cells #[.string (bs nm), .string bl2] 55)
            have HK11 := hid hk11
            have HC11 := hid hc11
            clear hk11 hc11 hszn hwd
            go_upto_region 36 with fail
            obtain ⟨bx, hbx⟩ : ∃ bx, bx = wr.heap.size := ⟨_, rfl⟩
            rw [← hbx] at HK11 ⊢
            have HBX : Hid (bx = wr.heap.size) := hid hbx
            clear hbx hix e0 e1 hlt
            generalize wr.alloc (.cells #[.string (bs nm), .string bl2] 55) = W11 at *
            have x0 := cell_of HK11.out 0
            have x1 := cell_of HK11.out 1
            have xf0 := frozen_of HK11.out 0
            simp at x0 x1
            have hc12 : Chg (fun _ => False) wr (W11.setCell ⟨bx, 0, none⟩ (.string ((⟨#[113]⟩ : ByteArray) ++ bs nm))) := HC11.out.setCell (p := ⟨bx, 0, none⟩) (fun h => by have := HBX.out; simp at h; omega) _
            have hx12 := heap_set_same HK11.out 0 (.string ((⟨#[113]⟩ : ByteArray) ++ bs nm))
            simp only [List.setIfInBounds_toArray, List.set_cons_zero] at hx12
            have HC12 := hid hc12
            have HX12 := hid hx12
            have HOW12 := hid (hc12.owns HOWN.out (fun _ _ h => h))
            clear hc12 hx12
            go_upto_region 37 with fail
            clear x0 x1 xf0
            rw [HBQ.out] at HC12 HX12 HOW12 ⊢
            generalize W11.setCell ⟨bx, 0, none⟩ (.string (bs (qN nm))) = W12 at *
            have x0 := cell_of HX12.out 0
            have x1 := cell_of HX12.out 1
            simp at x0 x1
            go_wp2_with (guard_target =~ wpList _ _ _ (Oper.mk (some 135) _ _ _ _ _ :: _) _ _; refine wpList_append_new rfl _ _ 26 rfl elSrcN HOW12.out rfl #[.string (bs (qN nm)), .string bl2] 1 1 rfl rfl rfl (by unfold maxLen; omega) (by omega) (by decide) ?_; intro g6 cap6 w7 hown7 hch7 hg7)
            go_roundw
            case rel =>
              refine ⟨(n : Int) - 1, n, _, rfl, by first | rfl | (congr 1; omega), rfl, by omega, ?_, fun z hz => ?_, (HCY.out.trans HC12.out (fun _ _ h => h)).trans hch7 (fun z hz e => by have := HBL.out z e; have := HB16.out; omega)⟩
              · rw [HDR.out, List.flatMap_append, show srcs.length - n = srcs.length - (n + 1) + 1 by omega]
                have e3 : [qS1 srcs[n]].flatMap srcL = srcL (qS1 srcs[n]) := by simp
                rw [e3, HQS.out]
                exact hown7
              · obtain rfl := own_eq hz
                rcases hg7 with h | h
                · exact HBL.out _ h
                · have h1 := HCY.out.size
                  have h2 := HC12.out.size
                  have h3 := HB16.out
                  omega
            case measure => (simp [intOf] <;> omega)
          · obtain rfl : j = 0 := by have := HVJ.out; omega
            have hown := HOWN.out
            rw [qS1_all, Nat.sub_zero] at hown
            have HQL : Hid ((qS srcs).length = srcs.length) := hid (by simp [qS])
            have HRS := hid (SrcsAt.of_owns2 HQL.out.symm hown (by rw [HQL.out]; omega) (fun s hs => by
              obtain ⟨x, hx, rfl⟩ := qS_mem hs
              have h1 : x.1.length ≤ 8 := name_le HD.out.can.w (mem_names.2 (.inl ((HD.out.fit.mem _).1 (List.mem_map.2 ⟨x, hx, rfl⟩))))
              have h2 := HSS.out.wide x hx
              refine ⟨?_, h2.2⟩
              show (qN x.1).length ≤ maxLen
              rw [qN_len]
              unfold maxLen
              omega))
            have HCW2 := hid (HCW.out.trans HCY.out (fun _ _ h => h))
            have HC52 := hid (HCX.out.trans HCY.out (fun _ _ h => h))
            have HGR2 := hid (HGR.out.chg HCY.out (fun _ _ h => h))
            have HBK2 := hid (HCY.out.obj HBLK.out (fun h => h))
            have HDQ := hid (done_q HD.out H7.out)
            have HZQ : Hid (checkS (qG g) (qS srcs) = 0) := hid (checkS_zero.2 HDQ.out)
            clear hown HOWN HBL HCW HCX HGR HBLK HCY HVJ HC3 HS3 HO3
            have a0 := cell_of HBK2.out 0
            have a1 := cell_of HBK2.out 1
            simp at a0 a1
            go_wp2_with fail
            refine (obuild_any (qG g) (qS srcs) _ _ _ HGR2.out HRS.out (HT.out.keep HCW2.out) (Nat.le_trans HBB.out HCW2.out.size)).mono ?_
            rintro e w8 ⟨hc8, v8, rfl, hb8⟩
            rw [HZQ.out]
            have ho8 : outS (qG g) (qS srcs) = outT (qG g) (qS srcs) := if_pos HZQ.out
            rw [ho8] at hb8
            have HC8 := hid (HCW2.out.trans hc8 (fun _ _ h => h))
            have HC58 := hid (HC52.out.trans hc8 (fun _ _ h => h))
            have HG8 := hid (HGR2.out.chg hc8 (fun _ _ h => h))
            have HS8 := hid (HRS.out.chg hc8 (fun _ _ h => h))
            have HK8 := hid (hc8.obj HBK2.out (fun h => h))
            have HB8 := hid hb8
            clear hc8 hb8 ho8 a0 a1 HCW2 HC52 HGR2 HRS HBK2
            have a0 := cell_of HK8.out 0
            have a1 := cell_of HK8.out 1
            simp at a0 a1
            go_wp2_with fail
            refine (okeys_any (qG g) (qS srcs) _ _ _ HG8.out HS8.out (HT.out.keep HC8.out) (Nat.le_trans HBB.out HC8.out.size)).mono ?_
            rintro e w9 ⟨hc9, v9, rfl, hb9⟩
            rw [HZQ.out]
            have hn9 : cntS (qG g) (qS srcs) = g.acts.length := by
              have h : cntS (qG g) (qS srcs) = (qG g).acts.length := if_pos HZQ.out
              rw [h, q_len]
            rw [hn9] at hb9
            have HC9 := hid (HC8.out.trans hc9 (fun _ _ h => h))
            have HC59 := hid (HC58.out.trans hc9 (fun _ _ h => h))
            have HB9 := hid (HB8.out.chg hc9 (fun _ _ h => h))
            have HX9 := hid hb9
            have HA9 := hid (HA5.out.chg HC59.out (fun _ _ h => h))
            have HY9 := hid (HX5.out.chg HC59.out (fun _ _ h => h))
            clear hc9 hb9 hn9 a0 a1 HC8 HC58 HG8 HS8 HK8 HB8 HC59
            obtain ⟨oa8, ca8, rfl⟩ := HB9.out.form
            obtain ⟨ob9, cb9, rfl⟩ := HX9.out.form
            have HLQ : Hid ((outT (qG g) (qS srcs)).length = g.acts.length) := hid (by rw [outT_len, q_len])
            rw [HLQ.out] at HB9 ⊢
            have HVQ := hid (fun i (hi : i < g.acts.length) => out_q HD.out H7.out hi)
            have HKQ := hid (fun i (hi : i < g.acts.length) => keys_q HD.out H7.out hi)
            go_upto_region 43 with fail
            go_loopw [23] (fun i wx => ∃ k : Nat, k ≤ g.acts.length ∧ i = .int .i64 k ∧ Chg (fun _ => False) w9 wx) (fun i _ => g.acts.length - (intOf i).toNat)
            case atStart => exact ⟨0, Nat.zero_le _, rfl, Chg.refl _ _⟩
            case round =>
             obtain ⟨k, hk, rfl, hch⟩ := hrel
             have HCH := hid hch
             clear hch
             by_cases hkn : k < g.acts.length
             · have hkn' : (k : Int) < g.acts.length := by omega
               obtain ⟨b1, o1, hix1, x0, x1, x2, hl1⟩ := (HB9.out.chg HCH.out (fun _ _ h => h)).ix k (by rw [HLQ.out]; exact hkn)
               obtain ⟨b2, o2, hix2, y0, y1, y2, hl2⟩ := (HA9.out.chg HCH.out (fun _ _ h => h)).ix k (by rw [outT_len]; exact hkn)
               obtain ⟨b3, o3, hix3, r3, hl3⟩ := (HY9.out.chg HCH.out (fun _ _ h => h)).ix k hkn
               obtain ⟨b4, o4, hix4, r4, hl4⟩ := (HX9.out.chg HCH.out (fun _ _ h => h)).ix k hkn
               rw [HVQ.out k hkn] at x1 x2
               rw [HKQ.out k hkn] at r4
               have hsm := foldT_small g srcs HD.out.wide HD.out.fit.nd _ (orderR g) rfl g.acts[k].name
               have hog := outT_get g srcs k hkn
               have hnb := neq_res_same ((outT g srcs)[k]'(by rw [outT_len]; exact hkn)).2 (by rw [hog]; exact wf_small4 hsm) (by
                 rw [hog]
                 have h1 := hsm.wide
                 show (valT (madeS g srcs) g.acts[k].name).2.size ≤ maxLen
                 unfold maxLen
                 unfold madeS madeT
                 omega)
               clear hsm hog x0 y0
               generalize ((outT g srcs)[k]'(by rw [outT_len]; exact hkn)).2.1 = rc at *
               generalize ((outT g srcs)[k]'(by rw [outT_len]; exact hkn)).2.2 = rb at *
               generalize keyS g srcs k = KF at *
               try rw [outT_len] at hix2
               have HSX := hid (show ∀ W, Chg (fun _ => False) wr W → (W.cell? ⟨b1, o1 + 1, none⟩ = some (.int .i64 rc) ∧ W.cell? ⟨b1, o1 + 1 + 1, none⟩ = some (.string rb)) ∧ (W.cell? ⟨b2, o2 + 1, none⟩ = some (.int .i64 rc) ∧ W.cell? ⟨b2, o2 + 1 + 1, none⟩ = some (.string rb)) ∧ W.rangeAt b3 o3 (rowB 32 KF).toList ∧ W.rangeAt b4 o4 (rowB 32 KF).toList from fun W hW =>
                 ⟨⟨hW.cell x1 (fun h => h), hW.cell x2 (fun h => h)⟩, ⟨hW.cell y1 (fun h => h), hW.cell y2 (fun h => h)⟩, fun j u h => hW.cell (r3 j u h) (fun h => h), fun j u h => hW.cell (r4 j u h) (fun h => h)⟩)
               clear x1 x2 y1 y2 r3 r4
               go_upto_region 45 with fail
               refine wp_region_held_drew (S := fun W => Chg (fun _ => False) wr W) (by kernel_rfl) ((Chg.refl _ wr).drew) (fun hd => ?_)
               refine wpAnyH_takeD (i := 0) (v := .slice oa8 g.acts.length ca8) (some 170) rfl (by kernel_rfl) (by kernel_rfl) (by kernel_rfl) (by kernel_rfl) (fun _ _ _ h => h) (.inl ⟨by kernel_rfl, fun W _ => by kernel_rfl⟩) hd ?_
               refine wpAnyH_takeD (i := 1) (v := .int .i64 k) (some 171) rfl (by kernel_rfl) (by kernel_rfl) (by kernel_rfl) (by kernel_rfl) (fun _ _ _ h => h) (.inl ⟨by kernel_rfl, fun W _ => by kernel_rfl⟩) hd ?_
               refine wpAnyH_takeD (i := 2) (v := .pointer (some ⟨b1, o1, none⟩)) (some 172) rfl (by kernel_rfl) (by kernel_rfl) (by kernel_rfl) (by kernel_rfl) (fun _ _ _ h => h) (yieldsIf_index (by kernel_rfl) 29 (.tmp 170) (.tmp 171) (by kernel_rfl) (.slice oa8 g.acts.length ca8) (.int .i64 k) _ (by kernel_rfl) (by kernel_rfl) (fun W => hix1 W)) hd ?_
               refine wpAnyH_takeD (i := 3) (v := .pointer (some ⟨b1, o1 + 1, none⟩)) (some 173) rfl (by kernel_rfl) (by kernel_rfl) (by kernel_rfl) (by kernel_rfl) (fun _ _ _ h => h) (.inl ⟨by kernel_rfl, fun W _ => by kernel_rfl⟩) hd ?_
               refine wpAnyH_takeD (i := 4) (v := .agg #[.int .i64 rc, .string rb]) (some 174) rfl (by kernel_rfl) (by kernel_rfl) (by kernel_rfl) (by kernel_rfl) (fun _ _ _ h => h) (yieldsIf_load1 (by kernel_rfl) 47 (.tmp 173) (by kernel_rfl) b1 (o1 + 1) _ (by kernel_rfl) (fun W hW => load_res2 (HSX.out W hW).1.1 (HSX.out W hW).1.2)) hd ?_
               refine wpAnyH_takeD (i := 5) (v := .slice oa4 g.acts.length ca4) (some 175) rfl (by kernel_rfl) (by kernel_rfl) (by kernel_rfl) (by kernel_rfl) (fun _ _ _ h => h) (.inl ⟨by kernel_rfl, fun W _ => by kernel_rfl⟩) hd ?_
               refine wpAnyH_takeD (i := 6) (v := .int .i64 k) (some 176) rfl (by kernel_rfl) (by kernel_rfl) (by kernel_rfl) (by kernel_rfl) (fun _ _ _ h => h) (.inl ⟨by kernel_rfl, fun W _ => by kernel_rfl⟩) hd ?_
               refine wpAnyH_takeD (i := 7) (v := .pointer (some ⟨b2, o2, none⟩)) (some 177) rfl (by kernel_rfl) (by kernel_rfl) (by kernel_rfl) (by kernel_rfl) (fun _ _ _ h => h) (yieldsIf_index (by kernel_rfl) 29 (.tmp 175) (.tmp 176) (by kernel_rfl) (.slice oa4 g.acts.length ca4) (.int .i64 k) _ (by kernel_rfl) (by kernel_rfl) (fun W => hix2 W)) hd ?_
               refine wpAnyH_takeD (i := 8) (v := .pointer (some ⟨b2, o2 + 1, none⟩)) (some 178) rfl (by kernel_rfl) (by kernel_rfl) (by kernel_rfl) (by kernel_rfl) (fun _ _ _ h => h) (.inl ⟨by kernel_rfl, fun W _ => by kernel_rfl⟩) hd ?_
               refine wpAnyH_takeD (i := 9) (v := .agg #[.int .i64 rc, .string rb]) (some 179) rfl (by kernel_rfl) (by kernel_rfl) (by kernel_rfl) (by kernel_rfl) (fun _ _ _ h => h) (yieldsIf_load1 (by kernel_rfl) 47 (.tmp 178) (by kernel_rfl) b2 (o2 + 1) _ (by kernel_rfl) (fun W hW => load_res2 (HSX.out W hW).2.1.1 (HSX.out W hW).2.1.2)) hd ?_
               refine wpAnyH_takeD (i := 10) (v := .bool false) (some 180) rfl (by kernel_rfl) (by kernel_rfl) (by kernel_rfl) (by kernel_rfl) (fun _ _ _ h => h) (yieldsIf_neq (by kernel_rfl) 47 47 (.tmp 174) (.tmp 179) (by kernel_rfl) _ _ (by kernel_rfl) (by kernel_rfl) (by kernel_rfl) false hnb) hd ?_
               refine wpAnyH_takeD (i := 11) (v := .bool false) (some 181) rfl (by kernel_rfl) (by kernel_rfl) (by kernel_rfl) (by kernel_rfl) (fun _ _ _ h => h) (.inl ⟨by kernel_rfl, fun W _ => by kernel_rfl⟩) hd ?_
               refine wpAnyH_takeD (i := 12) (v := .slice ob5 g.acts.length cb5) (some 182) rfl (by kernel_rfl) (by kernel_rfl) (by kernel_rfl) (by kernel_rfl) (fun _ _ _ h => h) (.inl ⟨by kernel_rfl, fun W _ => by kernel_rfl⟩) hd ?_
               refine wpAnyH_takeD (i := 13) (v := .int .i64 k) (some 183) rfl (by kernel_rfl) (by kernel_rfl) (by kernel_rfl) (by kernel_rfl) (fun _ _ _ h => h) (.inl ⟨by kernel_rfl, fun W _ => by kernel_rfl⟩) hd ?_
               refine wpAnyH_takeD (i := 14) (v := .pointer (some ⟨b3, o3, none⟩)) (some 184) rfl (by kernel_rfl) (by kernel_rfl) (by kernel_rfl) (by kernel_rfl) (fun _ _ _ h => h) (yieldsIf_index (by kernel_rfl) 34 (.tmp 182) (.tmp 183) (by kernel_rfl) (.slice ob5 g.acts.length cb5) (.int .i64 k) _ (by kernel_rfl) (by kernel_rfl) (fun W => hix3 W)) hd ?_
               refine wpAnyH_takeD (i := 15) (v := .agg (rowB 32 KF).toList.toArray) (some 185) rfl (by kernel_rfl) (by kernel_rfl) (by kernel_rfl) (by kernel_rfl) (fun _ _ _ h => h) (yieldsIf_load_mid (by kernel_rfl) 57 (.tmp 184) (by kernel_rfl) b3 o3 (by kernel_rfl) _ _ (fun W hW => (HSX.out W hW).2.2.1) Tryz.underlying57 rfl (by rw [Array.length_toList, rowB_size]; kernel_rfl)) hd ?_
               refine wpAnyH_takeD (i := 16) (v := .slice ob9 g.acts.length cb9) (some 186) rfl (by kernel_rfl) (by kernel_rfl) (by kernel_rfl) (by kernel_rfl) (fun _ _ _ h => h) (.inl ⟨by kernel_rfl, fun W _ => by kernel_rfl⟩) hd ?_
               refine wpAnyH_takeD (i := 17) (v := .int .i64 k) (some 187) rfl (by kernel_rfl) (by kernel_rfl) (by kernel_rfl) (by kernel_rfl) (fun _ _ _ h => h) (.inl ⟨by kernel_rfl, fun W _ => by kernel_rfl⟩) hd ?_
               refine wpAnyH_takeD (i := 18) (v := .pointer (some ⟨b4, o4, none⟩)) (some 188) rfl (by kernel_rfl) (by kernel_rfl) (by kernel_rfl) (by kernel_rfl) (fun _ _ _ h => h) (yieldsIf_index (by kernel_rfl) 34 (.tmp 186) (.tmp 187) (by kernel_rfl) (.slice ob9 g.acts.length cb9) (.int .i64 k) _ (by kernel_rfl) (by kernel_rfl) (fun W => hix4 W)) hd ?_
               refine wpAnyH_takeD (i := 19) (v := .agg (rowB 32 KF).toList.toArray) (some 189) rfl (by kernel_rfl) (by kernel_rfl) (by kernel_rfl) (by kernel_rfl) (fun _ _ _ h => h) (yieldsIf_load_mid (by kernel_rfl) 57 (.tmp 188) (by kernel_rfl) b4 o4 (by kernel_rfl) _ _ (fun W hW => (HSX.out W hW).2.2.2) Tryz.underlying57 rfl (by rw [Array.length_toList, rowB_size]; kernel_rfl)) hd ?_
               refine wpAnyH_takeD (i := 20) (v := .bool false) (some 190) rfl (by kernel_rfl) (by kernel_rfl) (by kernel_rfl) (by kernel_rfl) (fun _ _ _ h => h) (yieldsIf_neq (by kernel_rfl) 57 57 (.tmp 185) (.tmp 189) (by kernel_rfl) (rowB 32 KF) (rowB 32 KF) (by kernel_rfl) (by kernel_rfl) (by kernel_rfl) false (neq_dig_same _)) hd ?_
               refine wpAnyH_takeD (i := 21) (v := .bool false) (some 191) rfl (by kernel_rfl) (by kernel_rfl) (by kernel_rfl) (by kernel_rfl) (fun _ _ _ h => h) (.inl ⟨by kernel_rfl, fun W _ => by kernel_rfl⟩) hd ?_
               try simp only [Act.put, List.setIfInBounds_toArray, List.set_cons_zero, List.set_cons_succ]
               refine wpAnyH_done (by kernel_rfl) ?_ _
               have HF := hid (HCH.out.trans hd (fun _ _ h => h))
               clear hd
               go_wp2_with fail
               go_roundw
               case rel => exact ⟨k + 1, by omega, by go_num, HF.out⟩
               case measure => simp [intOf]; omega
             · obtain rfl : k = g.acts.length := by omega
               go_wp2_with fail
               go_ret
               exact ⟨rfl, HC9.out.trans HCH.out (fun _ _ h => h)⟩
end Go.Proofs.YthglfmacjoecgaaGreatDoor
