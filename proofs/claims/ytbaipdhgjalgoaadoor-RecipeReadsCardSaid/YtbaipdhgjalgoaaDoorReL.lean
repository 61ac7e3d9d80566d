/- recipe.read walked (printed by genl.py). -/
import Derived.Test.YtbaipdhgjalgoaaDoorReK
namespace Go.Proofs.YtbaipdhgjalgoaaDoor
open Go.RowKit

theorem splitC_len (c : UInt8) : ∀ l : List UInt8, (splitC c l).length ≤ l.length + 1
  | [] => by simp [splitC]
  | x :: r => by
    have ih := splitC_len c r
    have hp := List.length_pos_iff.2 (splitC_ne c r)
    unfold splitC
    split
    · simp; omega
    · simp; omega
theorem splitC_mem (c : UInt8) : ∀ l : List UInt8, ∀ x ∈ splitC c l, x.length ≤ l.length
  | [], x, h => by simp [splitC] at h; subst h; simp
  | y :: r, x, h => by
    have ih := splitC_mem c r
    unfold splitC at h
    split at h
    · rcases List.mem_cons.1 h with rfl | h
      · simp
      · have := ih x h; simp; omega
    · obtain ⟨a, b, e⟩ := List.exists_cons_of_ne_nil (splitC_ne c r)
      rw [e] at h ih
      simp only [List.headD_cons, List.tail_cons] at h
      rcases List.mem_cons.1 h with rfl | h
      · have := ih a (by simp); simp; omega
      · have := ih x (by simp [h]); simp; omega
theorem readL_src2 (ss : List (List UInt8)) (xs : List ActR) (x1 : List UInt8) : readL ⟨ss, xs⟩ [wSource, x1] = if nameL x1 = true ∧ xs = [] ∧ ss.length < 8 then some ⟨ss ++ [x1], xs⟩ else none := by
  unfold readL
  simp
theorem readL_act2 (ss : List (List UInt8)) (xs : List ActR) (ws : List (List UInt8)) (h : ¬ (ws.length = 2 ∧ ws.getD 0 [] = wSource)) : readL ⟨ss, xs⟩ ws = match actionL ws with
    | none => none
    | some a => if xs.length < 12 then some ⟨ss, xs ++ [a]⟩ else none := by
  unfold readL
  rw [if_neg h]
  cases actionL ws <;> rfl

set_option maxRecDepth 100000 in
set_option maxHeartbeats 4000000 in
theorem read_src {base : Nat} {w : World} {gb : Nat} {sv av : Value} {ss : List (List UInt8)} {ps : List (ActR × Value)} (h : GSt base w gb sv av ss ps) (hb : base ≤ w.heap.size) (hm : MaxOK w) (t : List UInt8) (ht : t.length ≤ 8192) (h8 : ss.length ≤ 8) (x1 : List UInt8) (hws : splitC 32 t = [wSource, x1]) :
    Calls Tryd.prog 20 #[.pointer (some ⟨gb, 0, none⟩), .string (bs t)] w (ReadPost base w gb (if nameL x1 = true ∧ ps.map (·.1) = [] ∧ ss.length < 8 then some ⟨ss ++ [x1], ps.map (·.1)⟩ else none)) := by
  have hsp := split_any t (by omega) w hm
  rw [hws] at hsp
  have hx1 : x1.length ≤ 100000 := by have := splitC_mem 32 t x1 (by rw [hws]; simp); omega
  have h1 := h.keep ((Chg.refl _ w).alloc (.cells ([wSource, x1].map strV).toArray 9))
  have hc01 : Chg (fun k => base ≤ k) w (w.alloc (.cells ([wSource, x1].map strV).toArray 9)) := (Chg.refl _ w).alloc _
  have k1 := heap_alloc_new' w (.cells ([wSource, x1].map strV).toArray 9)
  have hszw : (w.alloc (.cells ([wSource, x1].map strV).toArray 9)).heap.size = w.heap.size + 1 := by simp
  have hgw := h.lt
  have hsvw : ∀ k, sv.ownBlock = some k → k < w.heap.size := fun k hk => (World.ownsRow.lt h.so k hk).2
  generalize hW1 : w.alloc (.cells ([wSource, x1].map strV).toArray 9) = W1 at *
  obtain ⟨L0, hL0⟩ : ∃ L0, L0 = w.heap.size := ⟨_, rfl⟩
  rw [← hL0] at hsp k1 hszw hgw hsvw hb
  have q0 := cell_of k1 0
  have q1 := cell_of k1 1
  have c0 := cell_of h1.blk 0
  have c1 := cell_of h1.blk 1
  have fz0 := frozen_of h1.blk 0
  simp [strV] at q0 q1 c0 c1
  have K1 := hid k1
  have H1 := hid h1
  have HC01 := hid hc01
  have HL0 := hid hL0
  have HZ := hid hszw
  clear hW1 h k1 h1 hc01 hL0 hws hszw
  obtain ⟨xs1, hxs⟩ : ∃ xs1, xs1 = bs x1 := ⟨_, rfl⟩
  rw [← hxs] at q1
  have HXS := hid hxs
  have hsrc : ((bs wSource).toList == [115, 111, 117, 114, 99, 101]) = true := by rw [Lib.toList_data, bs_data]; rfl
  clear hxs
  obtain ⟨O, hO⟩ : ∃ O, O = (if nameL x1 = true ∧ ps.map (·.1) = [] ∧ ss.length < 8 then some (GrR.mk (ss ++ [x1]) (ps.map (·.1))) else none) := ⟨_, rfl⟩
  rw [← hO]
  have HO := hid hO
  clear hO
  go_enter Tryd.func20, Tryd.ntmps20
  go_wp2_with (go_at_call 36; refine hsp.mono ?_; rintro e w' ⟨rfl, hw'⟩; rw [hw']; clear hw')
  have c0a : ((W1.alloc (.cells #[.string xs1] 9)).drew).cell? ⟨gb, 0, none⟩ = some sv := cell_alloc' c0 _
  have c0b : (W1.alloc (.cells #[.string xs1] 9)).cell? ⟨gb, 0, none⟩ = some sv := cell_alloc' c0 _
  go_region_law (refine step_append_new rfl _ _ 23 rfl elStr H1.out.so rfl _ 1 1 rfl rfl rfl (by unfold maxLen; omega) (by omega) (by decide) ?_; intro g2 cap2 w2 hown2 hch2 hg2; have hblk2 := hch2.obj H1.out.blk (fun e => H1.out.sg e); have e0 := cell_of hblk2 0; have f0 := frozen_of hblk2 0; simp at e0)
  all_goals
    rw [HXS.out] at hown2
    have hbz : base ≤ W1.heap.size := by have := HZ.out; omega
    have h3 := GSt.putS H1.out hbz hx1 hch2 hown2 rfl hg2
    have hc3 : Chg (fun k => base ≤ k) w (w2.setCell ⟨gb, 0, none⟩ (.slice (some ⟨g2, 0, none⟩) (ss.length + 1) cap2)) := (HC01.out.trans hch2 (fun i hi e => H1.out.bsv i e)).setCell (p := ⟨gb, 0, none⟩) (fun _ => H1.out.bg) _
    have hq : (w2.setCell ⟨gb, 0, none⟩ (.slice (some ⟨g2, 0, none⟩) (ss.length + 1) cap2)).cell? ⟨L0, 1, none⟩ = some (.string xs1) :=
      Chg.cell (F := fun k => k = gb ∨ sv.ownBlock = some k) ((hch2.mono (fun _ _ e => .inr e)).setCell (p := ⟨gb, 0, none⟩) (fun _ => .inl rfl) _) q1 (by
        rintro (e | e)
        · have e' : L0 = gb := e
          omega
        · have := hsvw _ e
          have e' : L0 < L0 := this
          omega)
    have d0 := cell_of h3.blk 0
    have d1 := cell_of h3.blk 1
    simp at d0 d1
    have H3 := hid h3
    have HC3 := hid hc3
    clear h3 hc3 hown2 hch2 hg2 hblk2 e0 f0 c0 c1 fz0 q0 q1 c0a c0b hsp
    generalize w2.setCell ⟨gb, 0, none⟩ (.slice (some ⟨g2, 0, none⟩) (ss.length + 1) cap2) = W3 at *
    have hn : ∀ W, Calls Tryd.prog 15 #[.string xs1] W (Rets (.bool (nameL x1)) (Chg (fun _ => False) W)) := fun W => by rw [HXS.out]; exact isNameL_any x1 (Nat.le_trans hx1 (by decide)) W
    have hlA := fun W ty => run_len_own (P := Tryd.prog) Tryd.underlying24 H3.out.ao W ty
    cases hB : nameL x1 with
    | false =>
      rw [hB] at hn
      have HIF : Hid ((if nameL x1 = true ∧ ps.map (·.1) = [] ∧ ss.length < 8 then some (GrR.mk (ss ++ [x1]) (ps.map (·.1))) else none) = none) := if_neg (by rw [hB]; simp)
      clear hB
      go_wp2_with (go_at_call 15; refine (hn _).mono ?_; rintro e w4 ⟨rfl, hc4⟩)
      go_ret
      refine ⟨HC3.out.trans hc4 (fun _ _ e => e.elim), ?_⟩
      rw [HO.out, HIF.out]
      rfl
    | true =>
      rw [hB] at hn
      by_cases hp : ps.length = 0
      · have hp' : ps.map (·.1) = [] := by rw [List.length_eq_zero_iff.1 hp]; rfl
        have hpi : (ps.length : Int) = 0 := by omega
        by_cases hs8 : ss.length < 8
        · have hs8' : (ss.length : Int) + 1 ≤ 8 := by omega
          have HIF : Hid ((if nameL x1 = true ∧ ps.map (·.1) = [] ∧ ss.length < 8 then some (GrR.mk (ss ++ [x1]) (ps.map (·.1))) else none) = some (GrR.mk (ss ++ [x1]) (ps.map (·.1)))) := if_pos ⟨hB, hp', hs8⟩
          clear hB hp'
          go_wp2_with (go_at_call 15; refine (hn _).mono ?_; rintro e w4 ⟨rfl, hc4⟩; have e0 := hc4.cell d0 (fun h => h); have e1 := hc4.cell d1 (fun h => h))
          go_ret
          refine ⟨HC3.out.trans hc4 (fun _ _ e => e.elim), ?_⟩
          rw [HO.out, HIF.out]
          exact ⟨rfl, _, _, ps, H3.out.keep hc4, rfl⟩
        · have hs8' : ¬ (ss.length : Int) + 1 ≤ 8 := by omega
          have d8 : decide ((ss.length : Int) + 1 ≤ 8) = false := decide_eq_false hs8'
          have HIF : Hid ((if nameL x1 = true ∧ ps.map (·.1) = [] ∧ ss.length < 8 then some (GrR.mk (ss ++ [x1]) (ps.map (·.1))) else none) = none) := if_neg (fun h => hs8 h.2.2)
          clear hB hp'
          go_wp2_with (go_at_call 15; refine (hn _).mono ?_; rintro e w4 ⟨rfl, hc4⟩; have e0 := hc4.cell d0 (fun h => h); have e1 := hc4.cell d1 (fun h => h))
          go_ret
          refine ⟨HC3.out.trans hc4 (fun _ _ e => e.elim), ?_⟩
          rw [HO.out, HIF.out]
          rfl
      · have hpi : ¬ (ps.length : Int) = 0 := by omega
        have HIF : Hid ((if nameL x1 = true ∧ ps.map (·.1) = [] ∧ ss.length < 8 then some (GrR.mk (ss ++ [x1]) (ps.map (·.1))) else none) = none) := if_neg (fun h => hp (by have := congrArg List.length h.2.1; simpa using this))
        clear hB
        go_wp2_with (go_at_call 15; refine (hn _).mono ?_; rintro e w4 ⟨rfl, hc4⟩; have e0 := hc4.cell d0 (fun h => h); have e1 := hc4.cell d1 (fun h => h))
        go_ret
        refine ⟨HC3.out.trans hc4 (fun _ _ e => e.elim), ?_⟩
        rw [HO.out, HIF.out]
        rfl
end Go.Proofs.YtbaipdhgjalgoaaDoor
