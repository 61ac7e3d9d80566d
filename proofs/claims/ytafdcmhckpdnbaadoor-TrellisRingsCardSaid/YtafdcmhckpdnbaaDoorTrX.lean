/- TrellisRings walked: it returns true. -/
import Derived.Test.YtafdcmhckpdnbaaDoorTrY
import Derived.Test.YtafdcmhckpdnbaaDoorTrXA
import Derived.Deep.RegionHeld3
namespace Go.Proofs.YtafdcmhckpdnbaaDoor
open Go.RowKit

/-- The build under way at block gb. -/
structure RSt (base : Nat) (w : World) (gb : Nat) (av : Value) (ps : List (ActR × Value)) : Prop where
  blk : w.heap[gb]? = some (.cells #[.slice none 0 0, av] 25 (0, 0))
  ao : w.ownsRow 0 41 3 av ps.length (flatA ps)
  ag : av.ownBlock ≠ some gb
  bav : ∀ k, av.ownBlock = some k → base ≤ k
  ins : ∀ p ∈ ps, NamesAt w p.2 p.1.ins ∧ ∀ k, slBlk p.2 = some k → base ≤ k ∧ k ≠ gb ∧ av.ownBlock ≠ some k ∧ k < w.heap.size
  wide : ∀ p ∈ ps, p.1.name.length ≤ 1000 ∧ p.1.code.length ≤ 1000
theorem RSt.chg {base : Nat} {w w' : World} {gb : Nat} {av : Value} {ps : List (ActR × Value)} (h : RSt base w gb av ps) {F : Nat → Prop} (hc : Chg F w w') (h1 : ¬ F gb) (h2 : ∀ k, av.ownBlock = some k → ¬ F k) (h3 : ∀ k, k < w.heap.size → k ≠ gb → av.ownBlock ≠ some k → ¬ F k) : RSt base w' gb av ps :=
  ⟨hc.obj h.blk h1, hc.owns h.ao h2, h.ag, h.bav, fun p hp => ⟨(h.ins p hp).1.chg' hc (fun _ k hk => by
    obtain ⟨_, e2, e3, e4⟩ := (h.ins p hp).2 k hk
    exact h3 k e4 e2 e3), fun k hk => by
    obtain ⟨e1, e2, e3, e4⟩ := (h.ins p hp).2 k hk
    exact ⟨e1, e2, e3, Nat.lt_of_lt_of_le e4 hc.size⟩⟩, h.wide⟩
theorem RSt.keep {base : Nat} {w w' : World} {gb : Nat} {av : Value} {ps : List (ActR × Value)} (h : RSt base w gb av ps) (hc : Chg (fun _ => False) w w') : RSt base w' gb av ps := h.chg hc (fun h => h) (fun _ _ h => h) (fun _ _ _ _ h => h)
theorem RSt.put {base : Nat} {w w' : World} {gb : Nat} {av : Value} {ps : List (ActR × Value)} (h : RSt base w gb av ps) (hb : base ≤ w.heap.size) {g2 n cap : Nat} {p : ActR × Value}
    (hpw : p.1.name.length ≤ 1000 ∧ p.1.code.length ≤ 1000) (hpn : NamesAt w p.2 p.1.ins) (hpa : ∀ k, slBlk p.2 = some k → base ≤ k ∧ k ≠ gb ∧ av.ownBlock ≠ some k ∧ k < w.heap.size)
    (hc : Chg (fun k => av.ownBlock = some k) w w') (hown : w'.ownsRow 0 41 3 (.slice (some ⟨g2, 0, none⟩) n cap) n (flatA ps ++ [strV p.1.name, p.2, strV p.1.code])) (hn : n = ps.length + 1) (hg : av.ownBlock = some g2 ∨ w.heap.size ≤ g2) :
    RSt base (w'.setCell ⟨gb, 1, none⟩ (.slice (some ⟨g2, 0, none⟩) n cap)) gb (.slice (some ⟨g2, 0, none⟩) n cap) (ps ++ [p]) := by
  have hblk := hc.obj h.blk (fun e => h.ag e)
  have hlt := heap_lt h.blk
  have hg2 : g2 ≠ gb := by
    rcases hg with e | e
    · intro e2; subst e2; exact h.ag e
    · omega
  have hc2 : Chg (fun k => k = gb ∨ av.ownBlock = some k) w (w'.setCell ⟨gb, 1, none⟩ (.slice (some ⟨g2, 0, none⟩) n cap)) := (hc.mono (G := fun k => k = gb ∨ av.ownBlock = some k) (fun _ _ h => .inr h)).setCell (p := ⟨gb, 1, none⟩) (fun _ => .inl rfl) _
  have hins : ∀ q ∈ ps ++ [p], NamesAt w q.2 q.1.ins ∧ ∀ k, slBlk q.2 = some k → base ≤ k ∧ k ≠ gb ∧ av.ownBlock ≠ some k ∧ k < w.heap.size := by
    intro q hq
    simp only [List.mem_append, List.mem_singleton] at hq
    rcases hq with hq | rfl
    · exact h.ins q hq
    · exact ⟨hpn, hpa⟩
  refine ⟨?_, ?_, fun e => hg2 (own_eq e).symm, ?_, ?_, ?_⟩
  · simpa using heap_set_same hblk 1 (.slice (some ⟨g2, 0, none⟩) n cap)
  · have := ((Chg.refl (fun k => k = gb) w').setCell (p := ⟨gb, 1, none⟩) (fun _ => rfl) (.slice (some ⟨g2, 0, none⟩) n cap)).owns hown (fun k hk e => hg2 (by have := own_eq hk; subst this; exact e))
    rw [hn] at this ⊢
    rw [flatA_append]
    simpa using this
  · intro k hk
    obtain rfl := own_eq hk
    rcases hg with e2 | e2
    · exact h.bav _ e2
    · omega
  · intro q hq
    obtain ⟨h1, h2⟩ := hins q hq
    refine ⟨h1.chg' hc2 (fun _ k hk e => e.elim (fun e => (h2 k hk).2.1 e) (fun e => (h2 k hk).2.2.1 e)), fun k hk => ⟨(h2 k hk).1, (h2 k hk).2.1, ?_, Nat.lt_of_lt_of_le (h2 k hk).2.2.2 hc2.size⟩⟩
    intro e
    obtain rfl := own_eq e
    rcases hg with e2 | e2
    · exact (h2 _ hk).2.2.1 e2
    · have := (h2 _ hk).2.2.2; omega
  · intro q hq
    simp only [List.mem_append, List.mem_singleton] at hq
    rcases hq with hq | rfl
    · exact h.wide q hq
    · exact hpw
theorem w_gen {X : World → Prop} {w : World} (R : World → Prop) (h : R w) (k : ∀ W, R W → X W) : X w := k w h
/-- An action just made, at block bt, its one input in the row at bst. -/
structure Made (w W : World) (bt bst : Nat) (y1 y2 : ByteArray) : Prop where
  blk : W.heap[bt]? = some (.cells #[.string y1, .slice (some ⟨bst, 0, none⟩) 1 1, .string ByteArray.empty] 41 (0, 0))
  row : W.heap[bst]? = some (.cells #[.string y2] 9 (0, 0))
  chg : Chg (fun _ => False) w W
  bt_ge : w.heap.size ≤ bt
  bst_ge : w.heap.size ≤ bst
  ne : bt ≠ bst
theorem made_set {w W : World} {bt bst : Nat} {y1 y2 : ByteArray} {a b c : Value} (hb : W.heap[bt]? = some (.cells #[a, b, c] 41 (0, 0))) (hr : W.heap[bst]? = some (.cells #[.string y2] 9 (0, 0))) (hne : bt ≠ bst)
    (hc : Chg (fun _ => False) w (((W.setCell ⟨bt, 0, none⟩ (.string y1)).setCell ⟨bt, 1, none⟩ (.slice (some ⟨bst, 0, none⟩) 1 1)).setCell ⟨bt, 2, none⟩ (.string ByteArray.empty))) (h1 : w.heap.size ≤ bt) (h2 : w.heap.size ≤ bst) :
    Made w (((W.setCell ⟨bt, 0, none⟩ (.string y1)).setCell ⟨bt, 1, none⟩ (.slice (some ⟨bst, 0, none⟩) 1 1)).setCell ⟨bt, 2, none⟩ (.string ByteArray.empty)) bt bst y1 y2 where
  blk := by
    have k := heap_set_same (heap_set_same (heap_set_same hb 0 (.string y1)) 1 (.slice (some ⟨bst, 0, none⟩) 1 1)) 2 (.string ByteArray.empty)
    simpa using k
  row := heap_set_other (heap_set_other (heap_set_other hr (a := ⟨bt, 0, none⟩) (fun e => hne e.symm) _) (a := ⟨bt, 1, none⟩) (fun e => hne e.symm) _) (a := ⟨bt, 2, none⟩) (fun e => hne e.symm) _
  chg := hc
  bt_ge := h1
  bst_ge := h2
  ne := hne
theorem names_one {w : World} {b : Nat} {x : Nm} {T : TypeId} {fz : Nat × Nat} (h : w.heap[b]? = some (.cells #[.string (bs x)] T fz))  (hx : x.length ≤ 1000) : NamesAt w (.slice (some ⟨b, 0, none⟩) 1 1) [x] := by
  refine ⟨.inr ⟨⟨b, 0, none⟩, 1, rfl, fun i hi => ?_⟩, (by show (1 : Nat) ≤ 9223372036854775807; decide), fun s hs => ?_⟩
  · obtain rfl : i = 0 := by simp at hi; omega
    exact cell_of h 0
  · simp at hs
    subst hs
    rw [bs_size]
    unfold maxLen
    omega
theorem letters (i : Nat) (h : i < 12) : (⟨#[116]⟩ : ByteArray) ++ (⟨#[97, 98, 99, 100, 101, 102, 103, 104, 105, 106, 107, 108]⟩ : ByteArray).extract i (i + 1) = bs (ringName i) := by
  rcases (by omega : i = 0 ∨ i = 1 ∨ i = 2 ∨ i = 3 ∨ i = 4 ∨ i = 5 ∨ i = 6 ∨ i = 7 ∨ i = 8 ∨ i = 9 ∨ i = 10 ∨ i = 11) with rfl | rfl | rfl | rfl | rfl | rfl | rfl | rfl | rfl | rfl | rfl | rfl <;> kernel_rfl

theorem RSt.cut {base : Nat} {w : World} {gb rowg rcap k : Nat} {ps : List (ActR × Value)} {cc : List UInt8} (h : RSt base w gb (.slice (some ⟨rowg, 0, none⟩) k rcap) ps) (hk : 1 ≤ k) (hk12 : k ≤ 12) (hps : ps.map Prod.fst = (List.range k).map (ringA k cc)) :
    (∃ x, w.cell? ⟨rowg, (k - 1) * 3 + 1, none⟩ = some x) ∧ w.frozen? ⟨rowg, (k - 1) * 3 + 1, none⟩ = false ∧
      GrAt (w.setCell ⟨rowg, (k - 1) * 3 + 1, none⟩ (.slice none 0 0)) (.agg #[.slice none 0 0, .slice (some ⟨rowg, 0, none⟩) k rcap]) (cutG k cc) ∧
      (w.setCell ⟨rowg, (k - 1) * 3 + 1, none⟩ (.slice none 0 0)).heap[gb]? = some (.cells #[.slice none 0 0, .slice (some ⟨rowg, 0, none⟩) k rcap] 25 (0, 0)) ∧ base ≤ rowg := by
  have hl : ps.length = k := by
    have := congrArg List.length hps
    simpa using this
  obtain ⟨j, rfl⟩ : ∃ j, k = j + 1 := ⟨k - 1, by omega⟩
  obtain ⟨qs, p, rfl⟩ : ∃ qs p, ps = qs ++ [p] := by
    rcases List.eq_nil_or_concat ps with e | ⟨qs, p, e⟩
    · rw [e] at hl; cases hl
    · exact ⟨qs, p, by rw [e]; simp⟩
  have hq : qs.length = j := by simpa using hl
  rw [List.map_append, List.range_succ, List.map_append] at hps
  obtain ⟨e1, e2⟩ := List.append_inj hps (by simp [hq])
  simp only [List.map_cons, List.map_nil, List.cons.injEq, and_true] at e2
  have hao := h.ao
  rw [hl] at hao
  have hcell := hao.cellAt (j * 3 + 1) (by omega)
  have hfz := hao.frozenAt (j * 3 + 1)
  have hst := (hao.stored (j * 3 + 1) (.slice none 0 0)).1
  have hidx : (flatA (qs ++ [p]))[j * 3 + 1]? = some p.2 := by
    rw [flatA_get _ _ _ (by decide), List.getElem?_append_right (by omega), hq]
    simp
  have hset : (flatA (qs ++ [p])).set (j * 3 + 1) (.slice none 0 0) = flatA (qs ++ [((⟨p.1.name, [], p.1.code⟩ : ActR), Value.slice none 0 0)]) := by
    rw [flatA_append, flatA_append, List.set_append_right _ _ (by rw [flatA_len, hq]; omega), flatA_len, hq]
    rw [show j * 3 + 1 - j * 3 = 1 by omega]
    rfl
  have hne : rowg ≠ gb := fun e => h.ag (by rw [e]; rfl)
  have hch : Chg (fun i => i = rowg) w (w.setCell ⟨rowg, j * 3 + 1, none⟩ (.slice none 0 0)) := (Chg.refl (fun i => i = rowg) w).setCell (p := ⟨rowg, j * 3 + 1, none⟩) (fun _ => rfl) _
  refine ⟨⟨p.2, ?_⟩, ?_, ?_, ?_, h.bav rowg rfl⟩
  · rw [show j + 1 - 1 = j by omega, hcell, hidx]
  · rw [show j + 1 - 1 = j by omega]; exact hfz
  · rw [show j + 1 - 1 = j by omega]
    rw [hset] at hst
    have h1 := ActsAt.of_owns (ps := qs ++ [((⟨p.1.name, [], p.1.code⟩ : ActR), Value.slice none 0 0)]) (w := w.setCell ⟨rowg, j * 3 + 1, none⟩ (.slice none 0 0)) (v := .slice (some ⟨rowg, 0, none⟩) (j + 1) rcap) (by
      rw [show (qs ++ [((⟨p.1.name, [], p.1.code⟩ : ActR), Value.slice none 0 0)]).length = j + 1 by simp [hq]]
      exact hst) (by simp [hq]; unfold maxLen; omega) (fun q hqm => by
      rcases List.mem_append.1 hqm with hqm | hqm
      · obtain ⟨f1, f2⟩ := h.ins q (by simp [hqm])
        exact f1.chg' hch (fun _ i hi e => (f2 i hi).2.2.1 (by rw [e]; rfl))
      · simp only [List.mem_singleton] at hqm
        subst hqm
        exact ⟨.inl ⟨rfl, rfl⟩, Nat.zero_le _, by simp⟩) (fun q hqm => by
      rcases List.mem_append.1 hqm with hqm | hqm
      · have := h.wide q (by simp [hqm])
        unfold maxLen; omega
      · simp only [List.mem_singleton] at hqm
        subst hqm
        have := h.wide p (by simp)
        unfold maxLen
        exact ⟨by show p.1.name.length ≤ _; omega, by show p.1.code.length ≤ _; omega⟩)
    have e : (qs ++ [((⟨p.1.name, [], p.1.code⟩ : ActR), Value.slice none 0 0)]).map Prod.fst = (cutG (j + 1) cc).acts := by
      unfold cutG
      rw [List.map_append, e1]
      show _ = (List.range (j + 1)).map (cutA (j + 1) cc)
      rw [List.range_succ, List.map_append]
      congr 1
      · refine List.map_congr_left (fun i hi => ?_)
        have := List.mem_range.1 hi
        unfold cutA ringA
        rw [if_neg (by omega)]
      · show [(⟨p.1.name, [], p.1.code⟩ : ActR)] = [cutA (j + 1) cc j]
        rw [e2]
        unfold cutA ringA
        rw [if_pos rfl]
    rw [e] at h1
    exact ⟨_, _, _, rfl, ⟨.inl ⟨rfl, rfl⟩, Nat.zero_le _, by simp [cutG]⟩, h1⟩
  · rw [show j + 1 - 1 = j by omega]
    exact hch.obj h.blk (fun e => hne e.symm)
set_option maxRecDepth 100000 in
set_option maxHeartbeats 8000000 in
theorem rings_any (a0 : Int) (_ : (Lit.int .i64 a0).wf = true) (s : ByteArray) (hs : s.size ≤ maxLen) (w : World) : Calls Tryd.prog 6 #[.int .i64 a0, .string s] w (Rets (.bool true) (Chg (fun _ => False) w)) := by
  unfold maxLen at hs
  go_enter Tryd.func6, Tryd.ntmps6
  go_wp2_with fail
  refine (awake_any _).mono ?_
  rintro e w1 ⟨rfl, hc1⟩
  have C1 := hid hc1
  clear hc1
  obtain ⟨n, hn, h1, h12⟩ : ∃ n : Nat, wrap64 (1 + wrap64 ((IntKind.u64.wrap a0).tmod 12)) = (n : Int) ∧ 1 ≤ n ∧ n ≤ 12 := by
    have h1 : 0 ≤ IntKind.u64.wrap a0 := by rw [IntKind.wrap_u64]; omega
    have h2 := Int.tmod_eq_emod_of_nonneg (b := 12) h1
    refine ⟨(1 + (IntKind.u64.wrap a0) % 12).toNat, ?_, by omega, by omega⟩
    rw [h2]
    unfold wrap64
    omega
  go_upto_if 19 with fail
  simp only [hn]
  have HHN := hid hn
  clear hn
  go_cut [1] from 10 (fun c wx => ∃ cc : List UInt8, cc.length ≤ 64 ∧ c = .string (bs cc) ∧ w1 = wx)
  case first =>
    by_cases h64 : (64 : Int) < (s.size : Int)
    · go_wp2_with fail
      go_meet
      refine ⟨[], by decide, ?_, rfl⟩
      simp [bs]
    · go_wp2_with fail
      go_meet
      refine ⟨s.data.toList, ?_, by simp [bs_list], rfl⟩
      have h2 := bs_size s.data.toList
      rw [bs_list] at h2
      omega
  case rest =>
    obtain ⟨cc, hcl, rfl, rfl⟩ := hcut
    have HCL := hid hcl
    clear hcl
    obtain ⟨cb, hcb⟩ : ∃ cb, cb = bs cc := ⟨_, rfl⟩
    rw [← hcb]
    have HB := hid hcb
    clear hcb
    go_wp2_with fail
    have hgb := heap_alloc_new' w1 (.cells #[.slice none 0 0, .slice none 0 0] 25)
    have hR0 : RSt w1.heap.size (w1.alloc (.cells #[.slice none 0 0, .slice none 0 0] 25)) w1.heap.size (.slice none 0 0) [] :=
      ⟨hgb, World.ownsRow_nil _ _ _ _, (fun h => by cases h), (fun k h => by cases h), (fun p hp => by cases hp), (fun p hp => by cases hp)⟩
    have HR0 := hid hR0
    have HC2 := hid (al_chg w1 (.cells #[.slice none 0 0, .slice none 0 0] 25))
    have HN1 := hid h1
    have hsz : w1.heap.size < (w1.alloc (.cells #[.slice none 0 0, .slice none 0 0] 25)).heap.size := by simp
    have HSZ := hid hsz
    clear hgb hR0 hsz
    generalize w1.alloc (.cells #[.slice none 0 0, .slice none 0 0] 25) = W2 at *
    obtain ⟨gb, hgb⟩ : ∃ gb, gb = w1.heap.size := ⟨_, rfl⟩
    have HGB := hid hgb
    rw [← hgb] at HR0 HSZ ⊢
    clear hgb
    go_loopw [6] (fun i wr => ∃ (k : Nat) (av : Value) (ps : List (ActR × Value)), k ≤ n ∧ i = .int .i64 k ∧ Chg (fun _ => False) w1 wr ∧ RSt gb wr gb av ps ∧ ps.map Prod.fst = (List.range k).map (ringA n cc)) (fun i _ => n - (intOf i).toNat)
    case atStart => exact ⟨0, _, [], Nat.zero_le _, rfl, HC2.out, HR0.out, rfl⟩
    case round =>
      obtain ⟨k, av, ps, hk, rfl, hch, hst, hps⟩ := hrel
      have HST := hid hst
      have HCH := hid hch
      have HPS := hid hps
      clear hst hch hps
      by_cases hkn : k < n
      · have hkn' : (k : Int) < (n : Int) := by omega
        have hsl : (⟨#[97, 98, 99, 100, 101, 102, 103, 104, 105, 106, 107, 108]⟩ : ByteArray).size = 12 := rfl
        have hm : (k + 1) % n < n := Nat.mod_lt _ (by omega)
        have hrem : ((k : Int) + 1).tmod (n : Int) = (((k + 1) % n : Nat) : Int) := by
          rw [Int.tmod_eq_emod_of_nonneg (by omega)]
          norm_cast
        have HL1 := hid (letters k (by omega))
        have HL2 := hid (letters ((k + 1) % n) (by omega))
        have HM : Hid ((k + 1) % n = (k + 1) % n) := hid rfl
        obtain ⟨m, hmm⟩ : ∃ m, m = (k + 1) % n := ⟨_, rfl⟩
        have HMM := hid hmm
        rw [← hmm] at hm hrem HL2
        clear hmm HM
        have hm12 : m < 12 := by omega
        have hrem2 : ((k : Int) + 1) % (n : Int) = (m : Int) := by rw [← hrem, Int.tmod_eq_emod_of_nonneg (by omega)]
        have hw1 : IntKind.i64.wrap ((k : Int) + 1) = (k : Int) + 1 := by rw [IntKind.wrap_i64]; omega
        have hw2 : IntKind.i64.wrap ((m : Int) + 1) = (m : Int) + 1 := by rw [IntKind.wrap_i64]; omega
        have hb1 : (0 : Int) ≤ (k : Int) := by omega
        have hb2 : (k : Int) ≤ (k : Int) + 1 := by omega
        have hb3 : (k : Int) + 1 ≤ 12 := by omega
        have hb4 : (0 : Int) ≤ (m : Int) := by omega
        have hb5 : (m : Int) ≤ (m : Int) + 1 := by omega
        have hb6 : (m : Int) + 1 ≤ 12 := by omega
        have hn0 : ¬ (n : Int) = 0 := by omega
        have hn1 : ¬ n = 0 := by omega
        have hn2 : ((n : Int) == 0) = false := by rw [beq_eq_false_iff_ne]; exact hn0
        have hrem3 : IntKind.i64.wrap (((k : Int) + 1).tmod (n : Int)) = (m : Int) := by rw [hrem, IntKind.wrap_i64]; omega
        have hrem4 : IntKind.i64.wrap (((k : Int) + 1) % (n : Int)) = (m : Int) := by rw [hrem2, IntKind.wrap_i64]; omega
        have hz1 : ¬ 9223372036854775807 < ({ data := #[116] } : ByteArray).size + (min (k + 1) ({ data := #[97, 98, 99, 100, 101, 102, 103, 104, 105, 106, 107, 108] } : ByteArray).size - k) := by show ¬ 9223372036854775807 < 1 + (min (k + 1) 12 - k); omega
        have hz2 : ¬ 9223372036854775807 < ({ data := #[116] } : ByteArray).size + (min (m + 1) ({ data := #[97, 98, 99, 100, 101, 102, 103, 104, 105, 106, 107, 108] } : ByteArray).size - m) := by show ¬ 9223372036854775807 < 1 + (min (m + 1) 12 - m); omega
        have hz3 : ¬ 9223372036854775807 < 1 + (min (k + 1) 12 - k) := by omega
        have hz4 : ¬ 9223372036854775807 < 1 + (min (m + 1) 12 - m) := by omega
        go_upto_region 10 with fail
        go_cut [7] from 21 to 51 (fun s7 wx => ∃ bt bst : Nat, s7 = .pointer (some ⟨bt, 0, none⟩) ∧ Made wr wx bt bst ({ data := #[116] } ++ ({ data := #[97, 98, 99, 100, 101, 102, 103, 104, 105, 106, 107, 108] } : ByteArray).extract k (k + 1)) ({ data := #[116] } ++ ({ data := #[97, 98, 99, 100, 101, 102, 103, 104, 105, 106, 107, 108] } : ByteArray).extract m (m + 1)))
        case first =>
          go_region_held3 (fun _ => True) (trivial) (first | (go_at_call 22; refine (action_any _ _ _ _ _).mono ?_; rintro e w6 ⟨rfl, hc6⟩; (try (have kA := hc6.obj (heap_alloc_old' (heap_alloc_new' wr.drew _) _) (fun h => h); have kB := hc6.obj (heap_alloc_new' (wr.drew.alloc _) _) (fun h => h); have Ap0 := cell_of kA 0; have Ar0 := frozen_of kA 0; simp at Ap0 Ar0; have Ap1 := cell_of kA 1; have Ar1 := frozen_of kA 1; simp at Ap1 Ar1; have Ap2 := cell_of kA 2; have Ar2 := frozen_of kA 2; simp at Ap2 Ar2; have Bp0 := cell_of kB 0; have Br0 := frozen_of kB 0; simp at Bp0 Br0; have Bp1 := cell_of kB 1; have Br1 := frozen_of kB 1; simp at Bp1 Br1; have Bp2 := cell_of kB 2; have Br2 := frozen_of kB 2; simp at Bp2 Br2))))
          · go_wp2_with fail
            go_meet
            exact ⟨_, _, rfl, ⟨heap_alloc_new' _ _, heap_alloc_old' (hc6.obj (heap_alloc_new' wr.drew _) (fun h => h)) _, (((Chg.refl _ wr).drew.alloc _).trans hc6 (fun _ _ h => h)).alloc _, (by have := hc6.size; simp at this; omega), Nat.le_refl _, (by have := hc6.size; simp at this; omega)⟩⟩
          · go_wp2_with fail
            go_meet
            exact ⟨_, _, rfl, (made_set (by simpa using kB) kA (by omega) ((((((((Chg.refl _ wr).drew.alloc _).alloc _).trans hc6 (fun _ _ h => h)).setCell (fun h => absurd h (by simp)) _).setCell (fun h => absurd h (by simp)) _).setCell (fun h => absurd h (by simp)) _)) (by omega) (Nat.le_refl _))⟩
          · go_wp2_with fail
            go_meet
            exact ⟨_, _, rfl, (made_set kA (by simpa using kB) (by omega) ((((((((Chg.refl _ wr).drew.alloc _).alloc _).trans hc6 (fun _ _ h => h)).setCell (fun h => absurd h (by simp)) _).setCell (fun h => absurd h (by simp)) _).setCell (fun h => absurd h (by simp)) _)) (Nat.le_refl _) (by omega))⟩
        case rest =>
          obtain ⟨bt, bst, rfl, hW7⟩ := hcut
          rw [HL1.out, HL2.out] at hW7
          have hlt := heap_lt HST.out.blk
          have hgl : gb ≤ wr.heap.size := Nat.le_of_lt hlt
          have hbg := hW7.bt_ge
          have hsg := hW7.bst_ge
          have hne1 : ¬ gb = bt := by omega
          have hne2 : ¬ bt = gb := by omega
          have hst7 := HST.out.chg hW7.chg (fun h => h) (fun _ _ h => h) (fun _ _ _ _ h => h)
          have hst8 : RSt gb (wc.setCell ⟨bt, 2, none⟩ (.string cb)) gb av ps := HST.out.chg ((hW7.chg.mono (G := fun k => k = bt) (fun _ _ h => h.elim)).setCell (p := ⟨bt, 2, none⟩) (fun _ => rfl) _) hne1 (fun k hk e => by
            have := (World.ownsRow.lt HST.out.ao k hk).2
            omega) (fun k hk _ _ e => by omega)
          have p0 := cell_of hW7.blk 0
          have p1 := cell_of hW7.blk 1
          have p2 := cell_of hW7.blk 2
          have f2 := frozen_of hW7.blk 2
          have d1 := cell_of hst7.blk 1
          simp at p0 p1 p2 d1
          have hpl : ps.length = k := by
            have := congrArg List.length HPS.out
            simpa using this
          have HPL := hid hpl
          have HST8 := hid hst8
          have HW7 := hid hW7
          have HC8 : Hid (Chg (fun _ => False) wr (wc.setCell ⟨bt, 2, none⟩ (.string cb))) := hid (hW7.chg.setCell (p := ⟨bt, 2, none⟩) (fun h => absurd h (by simp; omega)) _)
          have HNE := hid hW7.ne
          have hb8 := hst8.blk
          have HB8 := hid hb8
          clear hst7 hst8 hW7 hpl hb8
          go_wp2_with (refine wpList_append_new rfl _ _ 23 rfl elAct HST8.out.ao rfl #[.string (bs (ringName k)), .slice (some ⟨bst, 0, none⟩) 1 1, .string cb] 1 1 (by exact congrArg (fun k : Nat => Value.slice (some ⟨k, 0, none⟩) 1 1) (show _ = _ by simp)) rfl rfl (by have := HPL.out; unfold maxLen; omega) (by have := HPL.out; omega) (by decide) ?_; intro g2 cap2 w9 hown9 hch9 hg9; have k9 := hch9.obj HB8.out (fun e => HST8.out.ag e); have e1 := cell_of k9 1; have f1 := frozen_of k9 1; simp at e1)
          go_roundw
          case rel =>
            have hrow8 := heap_set_other HW7.out.row (a := ⟨bt, 2, none⟩) (fun e => HNE.out e.symm) (.string cb)
            refine ⟨k + 1, .slice (some ⟨g2, 0, none⟩) (ps.length + 1) cap2, ps ++ [(ringA n cc k, .slice (some ⟨bst, 0, none⟩) 1 1)], by omega, by go_num, ?_, ?_, ?_⟩
            · exact ((HCH.out.trans HC8.out (fun _ _ h => h)).trans hch9 (fun q hq h => absurd (HST.out.bav q h) (by have := HGB.out; omega))).setCell (p := ⟨gb, 1, none⟩) (fun h => absurd h (by have := HGB.out; simp; omega)) _
            · refine HST8.out.put (by have := HC8.out.size; omega) ⟨by simp [ringA, ringName], by have := HCL.out; show cc.length ≤ 1000; omega⟩ ?_ ?_ hch9 ?_ rfl hg9
              · show NamesAt _ _ [ringName ((k + 1) % n)]
                rw [← HMM.out]
                exact names_one hrow8 (by simp [ringName])
              · intro q hq
                cases hq
                refine ⟨(by show gb ≤ bst; omega), (by show bst ≠ gb; omega), fun e => ?_, heap_lt hrow8⟩
                have := (World.ownsRow.lt HST.out.ao _ e).2
                have h2 : bst < wr.heap.size := this
                omega
              · rw [HB.out] at hown9
                exact hown9
            · rw [List.map_append, HPS.out, List.range_succ, List.map_append]
              rfl
          case measure => simp [intOf]; omega
      · obtain rfl : k = n := by omega
        obtain ⟨rowg, rcap, hav⟩ : ∃ rowg rcap, av = .slice (some ⟨rowg, 0, none⟩) k rcap := by
          have hl : ps.length = k := by
            have := congrArg List.length HPS.out
            simpa using this
          obtain ⟨g, cap, h⟩ := owns_some HST.out.ao (by omega)
          exact ⟨g, cap, by rw [h.1, hl]⟩
        subst hav
        have hgr : GrAt wr (.agg #[.slice none 0 0, .slice (some ⟨rowg, 0, none⟩) k rcap]) (ringG k cc) := by
          have hl : ps.length = k := by
            have := congrArg List.length HPS.out
            simpa using this
          have h1 := ActsAt.of_owns HST.out.ao (by unfold maxLen; omega) (fun p hp => (HST.out.ins p hp).1) (fun p hp => by
            have := HST.out.wide p hp
            unfold maxLen
            omega)
          have e : ps.map Prod.fst = (ringG k cc).acts := HPS.out
          rw [e] at h1
          exact ⟨_, _, _, rfl, ⟨.inl ⟨rfl, rfl⟩, Nat.zero_le _, by simp [ringG]⟩, h1⟩
        have HGR := hid hgr
        have HRC := hid (ring_check HN1.out h12 HCL.out)
        have a0 := cell_of HST.out.blk 0
        have a1 := cell_of HST.out.blk 1
        simp at a0 a1
        clear hgr
        go_wp2_with fail
        refine (tcheck_any (ringG k cc) _ _ HGR.out).mono ?_
        rintro e w4 ⟨rfl, hc4⟩
        rw [HRC.out]
        have C4 := hid hc4
        have a0 := cell_of (C4.out.obj HST.out.blk (fun h => h)) 0
        have a1 := cell_of (C4.out.obj HST.out.blk (fun h => h)) 1
        simp at a0 a1
        clear hc4
        go_wp2_with fail
        have hz : ¬ checkR (ringG k cc) = 0 := by rw [HRC.out]; decide
        have HO0 : Hid (ordR (ringG k cc) = []) := hid (by unfold ordR; rw [if_neg hz])
        have HN0 : Hid (needsOf (ringG k cc) [116, 97] = []) := hid (by unfold needsOf; rw [if_neg hz])
        have HD0 : Hid (dirtyOf (ringG k cc) [[116, 97]] = []) := hid (by unfold dirtyOf; rw [if_neg hz])
        clear hz
        refine (torder_any (ringG k cc) _ _ (HGR.out.chg C4.out (fun _ _ h => h))).mono ?_
        rintro e w5 ⟨hc5, v5, rfl, ho5⟩
        rw [HO0.out] at ho5
        obtain ⟨o5, c5, rfl⟩ := owns_form ho5
        have C5 := hid (C4.out.trans hc5 (fun _ _ h => h))
        have a0 := cell_of (C5.out.obj HST.out.blk (fun h => h)) 0
        have a1 := cell_of (C5.out.obj HST.out.blk (fun h => h)) 1
        simp at a0 a1
        clear hc5 ho5 C4
        go_wp2_with fail
        refine (tneeds_any (ringG k cc) [116, 97] _ _ (HGR.out.chg C5.out (fun _ _ h => h))).mono ?_
        rintro e w6 ⟨hc6, v6, rfl, ho6⟩
        rw [HN0.out] at ho6
        obtain ⟨o6, c6, rfl⟩ := owns_form ho6
        have C6 := hid (C5.out.trans hc6 (fun _ _ h => h))
        have a0 := cell_of (C6.out.obj HST.out.blk (fun h => h)) 0
        have a1 := cell_of (C6.out.obj HST.out.blk (fun h => h)) 1
        simp at a0 a1
        clear hc6 ho6 C5
        go_wp2_with fail
        have NM6 : Hid (NamesAt (w6.alloc (.cells #[.string { data := #[116, 97] }] 9)) (.slice (some ⟨w6.heap.size, 0, none⟩) 1 1) [[116, 97]]) := hid (names_new w6 [[116, 97]] 1 rfl (by decide) (by decide))
        have C6a := hid (C6.out.trans (al_chg w6 (.cells #[.string { data := #[116, 97] }] 9)) (fun _ _ h => h))
        refine (tdirty_any (ringG k cc) [[116, 97]] _ _ _ (HGR.out.chg C6a.out (fun _ _ h => h)) NM6.out).mono ?_
        rintro e w7 ⟨hc7, v7, rfl, ho7⟩
        rw [HD0.out] at ho7
        obtain ⟨o7, c7, rfl⟩ := owns_form ho7
        have C7 := hid (C6a.out.trans hc7 (fun _ _ h => h))
        have a0 := cell_of (C7.out.obj HST.out.blk (fun h => h)) 0
        have a1 := cell_of (C7.out.obj HST.out.blk (fun h => h)) 1
        simp at a0 a1
        clear hc7 ho7 C6 C6a NM6
        have hst7 := HST.out.keep C7.out
        have HST7 := hid hst7
        have hw1 : IntKind.i64.wrap ((k : Int) - 1) = (k : Int) - 1 := by rw [IntKind.wrap_i64]; have := HN1.out; omega
        have hb0 : (0 : Int) ≤ (k : Int) - 1 := by have := HN1.out; omega
        have hb1 : (k : Int) - 1 < (k : Int) := by omega
        clear hst7
        obtain ⟨⟨x7, cx7⟩, fx7, hgc, hbc, hbr⟩ := HST7.out.cut HN1.out h12 HPS.out
        have C8 := hid ((HCH.out.trans C7.out (fun _ _ h => h)).setCell (p := ⟨rowg, (k - 1) * 3 + 1, none⟩) (fun h => absurd h (by have := HGB.out; simp; omega)) (.slice none 0 0))
        have HGC := hid hgc
        have HBC := hid hbc
        have hbc0 : ¬ gb = rowg := fun e => HST7.out.ag (by rw [e]; rfl)
        have hbc1 : ¬ rowg = gb := fun e => hbc0 e.symm
        clear hgc hbc hbr
        go_wp2_with fail
        refine (torder_any (cutG k cc) _ _ HGC.out).mono ?_
        rintro e w9 ⟨hc9, v9, rfl, ho9⟩
        have hck := cut_check HN1.out h12 HCL.out
        have hor : ordR (cutG k cc) = (List.range k).map (k - 1 - ·) := by unfold ordR; rw [if_pos hck, cut_order HN1.out h12 cc]
        have hnd : (needsOf (cutG k cc) [116, 97]).length = k - 1 := by
          unfold needsOf
          rw [if_pos hck, (cut_needs HN1.out h12 cc).1]
          exact (cut_needs HN1.out h12 cc).2
        have HCK := hid hck
        have HND := hid hnd
        rw [hor] at ho9
        have hLL : ((List.range k).map (k - 1 - ·)).length = k := by simp
        have hI9 := IntsAt.of_owns ho9
        have hLX : ∀ i (h : i < ((List.range k).map (k - 1 - ·)).length), ((List.range k).map (k - 1 - ·))[i] = k - 1 - i := by simp
        generalize (List.range k).map (k - 1 - ·) = L at *
        obtain ⟨o9, c9, rfl⟩ := hI9.form
        have HI9 := hid hI9
        have HLX := hid hLX
        have HLL := hid hLL
        have C9 := hid hc9
        clear hck hor hnd ho9 hI9 hLX hc9 a0 a1 cx7 fx7 hb0 hb1
        rw [hLL]
        clear hLL
        go_wp2_with fail
        go_loopw [9] (fun i wx => ∃ q : Nat, q ≤ k ∧ i = .int .i64 q ∧ Chg (fun _ => False) w9 wx) (fun i _ => k - (intOf i).toNat)
        case atStart => exact ⟨0, Nat.zero_le _, rfl, Chg.refl _ _⟩
        case round =>
          obtain ⟨q, hq, rfl, hcx⟩ := hrel
          have HCX := hid hcx
          clear hcx
          by_cases hqn : q < k
          · have hqn' : (q : Int) < (k : Int) := by omega
            obtain ⟨bb, oo, hix, hadc, hadb⟩ := (HI9.out.chg HCX.out (fun _ _ h => h)).ix q (by rw [HLL.out]; exact hqn)
            rw [HLX.out, HLL.out] at *
            obtain ⟨x, hx⟩ : ∃ x, x = k - 1 - q := ⟨_, rfl⟩
            rw [← hx] at hadc
            have hxi : (k : Int) - 1 - (q : Int) = (x : Int) := by omega
            have hxw : IntKind.i64.wrap ((k : Int) - 1 - (q : Int)) = (x : Int) := by rw [hxi, IntKind.wrap_i64]; omega
            clear hx
            go_wp2_with fail
            go_roundw
            case rel => exact ⟨q + 1, by omega, by go_num, HCX.out⟩
            case measure => simp [intOf]; omega
          · obtain rfl : q = k := by omega
            have b0 := cell_of ((C9.out.trans HCX.out (fun _ _ h => h)).obj HBC.out (fun h => h)) 0
            have b1 := cell_of ((C9.out.trans HCX.out (fun _ _ h => h)).obj HBC.out (fun h => h)) 1
            simp at b0 b1
            go_wp2_with fail
            refine (tcheck_any (cutG q cc) _ _ (HGC.out.chg (C9.out.trans HCX.out (fun _ _ h => h)) (fun _ _ h => h))).mono ?_
            rintro e w10 ⟨rfl, hc10⟩
            rw [HCK.out]
            have C10 := hid ((C9.out.trans HCX.out (fun _ _ h => h)).trans hc10 (fun _ _ h => h))
            have b0 := cell_of (C10.out.obj HBC.out (fun h => h)) 0
            have b1 := cell_of (C10.out.obj HBC.out (fun h => h)) 1
            simp at b0 b1
            clear hc10
            go_wp2_with fail
            refine (tneeds_any (cutG q cc) [116, 97] _ _ (HGC.out.chg C10.out (fun _ _ h => h))).mono ?_
            rintro e w11 ⟨hc11, v11, rfl, ho11⟩
            obtain ⟨o11, c11, rfl⟩ := owns_form ho11
            rw [HND.out]
            clear ho11
            obtain ⟨y, hy⟩ : ∃ y, y = q - 1 := ⟨_, rfl⟩
            rw [← hy]
            have hyi : (q : Int) - 1 = (y : Int) := by have := HN1.out; omega
            clear hy
            go_wp2_with fail
            go_ret
            exact ⟨rfl, ((C1.out.trans C8.out (fun _ _ h => h)).trans C10.out (fun _ _ h => h)).trans hc11 (fun _ _ h => h)⟩
end Go.Proofs.YtafdcmhckpdnbaaDoor
