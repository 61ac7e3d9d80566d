/- recipe.read walked: an action's line; both joined. -/
import Derived.Test.YtbaipdhgjalgoaaDoorReL
namespace Go.Proofs.YtbaipdhgjalgoaaDoor
open Go.RowKit

theorem actPost_form {g : Nat} {o : Option ActR} {w w' : World} {e : Ending} (h : ActPost g o w e w') : Chg (fun _ => False) w w' ∧ ∃ s oa n c cd B, e = .returned (.tuple #[.agg #[.string s, .slice oa n c, .string cd], .bool B]) ∧ B = o.isSome ∧
    ∀ a, o = some a → s = bs a.name ∧ n = a.ins.length ∧ cd = bs a.code ∧ NamesAt w' (.slice oa n c) a.ins ∧ ∀ ad, oa = some ad → ad.block = g := by
  obtain ⟨hc, hp⟩ := h
  refine ⟨hc, ?_⟩
  cases o with
  | none =>
    obtain ⟨s, oa, n, c, cd, rfl⟩ := hp
    exact ⟨s, oa, n, c, cd, false, rfl, rfl, fun a h => by cases h⟩
  | some a =>
    obtain ⟨oa, c, rfl, h1, h2⟩ := hp
    exact ⟨_, oa, _, c, _, true, rfl, rfl, fun a' h => by cases h; exact ⟨rfl, rfl, rfl, h1, h2⟩⟩

set_option maxRecDepth 100000 in
set_option maxHeartbeats 4000000 in
theorem read_act {base : Nat} {w : World} {gb : Nat} {sv av : Value} {ss : List (List UInt8)} {ps : List (ActR × Value)} (h : GSt base w gb sv av ss ps) (hb : base ≤ w.heap.size) (hm : MaxOK w) (t : List UInt8) (ht : t.length ≤ 8192) (h12 : ps.length ≤ 12) (ws : List (List UInt8)) (hws : splitC 32 t = ws) (hns : ¬ (ws.length = 2 ∧ ws.getD 0 [] = wSource)) :
    Calls Tryd.prog 20 #[.pointer (some ⟨gb, 0, none⟩), .string (bs t)] w (ReadPost base w gb (match actionL ws with | none => none | some a => if (ps.map (·.1)).length < 12 then some ⟨ss, ps.map (·.1) ++ [a]⟩ else none)) := by
  have hsp := split_any t (by omega) w hm
  have hwl : ws.length ≤ 100000 := by have := splitC_len 32 t; rw [hws] at this; omega
  have hwe : ∀ x ∈ ws, x.length ≤ 100000 := fun x hx => by have := splitC_mem 32 t x (by rw [hws]; exact hx); omega
  have hw0 : 0 < ws.length := by rw [← hws]; exact List.length_pos_iff.2 (splitC_ne 32 t)
  rw [hws] at hsp
  have h1 := h.keep ((Chg.refl _ w).alloc (.cells (ws.map strV).toArray 9))
  have hc01 : Chg (fun k => base ≤ k) w (w.alloc (.cells (ws.map strV).toArray 9)) := (Chg.refl _ w).alloc _
  have k1 := heap_alloc_new' w (.cells (ws.map strV).toArray 9)
  have hgw := h.lt
  have hsvw : ∀ k, sv.ownBlock = some k → k < w.heap.size := fun k hk => (World.ownsRow.lt h.so k hk).2
  have havw : ∀ k, av.ownBlock = some k → k < w.heap.size := fun k hk => (World.ownsRow.lt h.ao k hk).2
  have hszw : w.heap.size < (w.alloc (.cells (ws.map strV).toArray 9)).heap.size := by simp
  obtain ⟨O, hO⟩ : ∃ O : Option GrR, O = (match actionL ws with | none => none | some a => if (ps.map (·.1)).length < 12 then some (GrR.mk ss (ps.map (·.1) ++ [a])) else none) := ⟨_, rfl⟩
  rw [← hO]
  generalize w.alloc (.cells (ws.map strV).toArray 9) = W1 at *
  obtain ⟨L0, hL0⟩ : ∃ L0, L0 = w.heap.size := ⟨_, rfl⟩
  rw [← hL0] at hsp k1 hgw hsvw havw hb hszw
  have hcell : ∀ i (h : i < ws.length), W1.cell? ⟨L0, i, none⟩ = some (.string (bs ws[i])) := fun i hi => by
    rw [cell_of k1 i]
    simp [strV, hi]
  have hact := action_any ws hwl hwe L0 ws.length W1 (Nat.le_refl _) hcell
  have q0 := hcell 0 hw0
  have c1 := cell_of h1.blk 1
  simp at c1
  have t0 : ws.length = 2 → ((bs (ws[0]'hw0)).toList == [115, 111, 117, 114, 99, 101]) = false := fun h2 => by
    rw [Lib.toList_data, bs_data, beq_dec]
    refine decide_eq_false (fun e => hns ⟨h2, ?_⟩)
    rw [List.getD_eq_getElem?_getD, List.getElem?_eq_getElem hw0]
    exact e
  have H1 := hid h1
  have HC01 := hid hc01
  have HO := hid hO
  have HZ := hid hszw
  have HS := hid hsvw
  have HA := hid havw
  have HT0 := hid t0
  clear h h1 hc01 hL0 hws hO k1 hcell hszw hsvw havw t0 hns hwe
  obtain ⟨x0, hx0⟩ : ∃ x0, x0 = bs (ws[0]'hw0) := ⟨_, rfl⟩
  have HX0 := hid hx0
  rw [← hx0] at q0
  clear hx0
  by_cases h2 : ws.length = 2
  · have t0 := HT0.out h2
    rw [← HX0.out] at t0
    have hsp2 : Calls Tryd.prog 36 #[.string (bs t), .string { data := #[32] }] w (Rets (.slice (some ⟨L0, 0, none⟩) 2 2) (fun w' => w' = W1)) := by rw [h2] at hsp; exact hsp
    have hact2 : Calls Tryd.prog 37 #[.slice (some ⟨L0, 0, none⟩) 2 2] W1 (ActPost L0 (actionL ws) W1) := by rw [h2] at hact; exact hact
    clear hsp hact
    have hsp := hsp2
    have hact := hact2
    clear hsp2 hact2 h2 HT0 HX0 hw0 hwl
    go_enter Tryd.func20, Tryd.ntmps20
    go_wp2_with (first | (go_at_call 36; refine hsp.mono ?_; rintro e w' ⟨rfl, hw'⟩; rw [hw']; clear hw') | (go_at_call 37; refine hact.mono ?_; rintro e w2 hp2; obtain ⟨hc2, s3, oa3, n3, cc3, cd3, B3, rfl, hB3, hf3⟩ := actPost_form hp2; clear hp2; have HC2 := hid hc2; have HB3 := hid hB3; have HF3 := hid hf3; clear hc2 hB3 hf3))
    have h3 : GSt base (w2.alloc (.cells #[.string s3, .slice oa3 n3 cc3, .string cd3] 42)) gb sv av ss ps := (H1.out.keep HC2.out).keep ((Chg.refl _ w2).alloc _)
    have hc13 : Chg (fun k => base ≤ k) w (w2.alloc (.cells #[.string s3, .slice oa3 n3 cc3, .string cd3] 42)) := (HC01.out.trans HC2.out (fun _ _ e => e.elim)).alloc _
    have hn23 : ∀ v ns, NamesAt w2 v ns → NamesAt (w2.alloc (.cells #[.string s3, .slice oa3 n3 cc3, .string cd3] 42)) v ns := fun v ns hh => hh.chg ((Chg.refl (fun _ => False) w2).alloc _) (fun _ _ e => e)
    have k6 := heap_alloc_new' w2 (.cells #[.string s3, .slice oa3 n3 cc3, .string cd3] 42)
    have hsz3 : L0 < (w2.alloc (.cells #[.string s3, .slice oa3 n3 cc3, .string cd3] 42)).heap.size := by have := HC2.out.size; have := HZ.out; simp; omega
    have d1 := cell_of h3.blk 1
    have p0 : (w2.alloc (.cells #[.string s3, .slice oa3 n3 cc3, .string cd3] 42)).cell? ⟨w2.heap.size, 0, none⟩ = some (.string s3) := (cell_of k6 0).trans rfl
    have p1 : (w2.alloc (.cells #[.string s3, .slice oa3 n3 cc3, .string cd3] 42)).cell? ⟨w2.heap.size, 1, none⟩ = some (.slice oa3 n3 cc3) := (cell_of k6 1).trans rfl
    have p2 : (w2.alloc (.cells #[.string s3, .slice oa3 n3 cc3, .string cd3] 42)).cell? ⟨w2.heap.size, 2, none⟩ = some (.string cd3) := (cell_of k6 2).trans rfl
    simp at d1
    have H3 := hid h3
    have HC13 := hid hc13
    have HZ3 := hid hsz3
    have HN23 := hid hn23
    clear h3 hc13 k6 hsz3 c1 q0 hn23 hsp hact
    generalize w2.alloc (.cells #[.string s3, .slice oa3 n3 cc3, .string cd3] 42) = W3 at *
    generalize w2.heap.size = A6 at *
    have d1a : (W3.alloc (.cells #[.string s3, .slice oa3 n3 cc3, .string cd3] 42)).drew.cell? ⟨gb, 1, none⟩ = some av := cell_alloc' d1 _
    have d1b : (W3.alloc (.cells #[.string s3, .slice oa3 n3 cc3, .string cd3] 42)).cell? ⟨gb, 1, none⟩ = some av := cell_alloc' d1 _
    go_region_law (refine step_append_new rfl _ _ 24 rfl elAct H3.out.ao rfl _ 1 1 rfl rfl rfl (by unfold maxLen; omega) (by omega) (by decide) ?_; intro g2 cap2 w4 hown4 hch4 hg4; have hblk4 := hch4.obj H3.out.blk (fun e => H3.out.ag e); have e1 := cell_of hblk4 1; have f1 := frozen_of hblk4 1; simp at e1)
    all_goals
      have hW5 := cell_of (heap_set_same hblk4 1 (.slice (some ⟨g2, 0, none⟩) (ps.length + 1) cap2)) 1
      simp at hW5
      have hc5 : Chg (fun k => base ≤ k) w (w4.setCell ⟨gb, 1, none⟩ (.slice (some ⟨g2, 0, none⟩) (ps.length + 1) cap2)) := (HC13.out.trans hch4 (fun i hi e => H3.out.bav i e)).setCell (p := ⟨gb, 1, none⟩) (fun _ => H3.out.bg) _
      have HC5 := hid hc5
      have HFIN : Hid (∀ a, actionL ws = some a → GSt base (w4.setCell ⟨gb, 1, none⟩ (.slice (some ⟨g2, 0, none⟩) (ps.length + 1) cap2)) gb sv (.slice (some ⟨g2, 0, none⟩) (ps.length + 1) cap2) ss (ps ++ [(a, .slice oa3 n3 cc3)])) := by
        intro a ha
        obtain ⟨e1, e2, e3, e4, e5⟩ := HF3.out a ha
        have hok := (actOK_iff a).1 (ws_actionL ws a ha).2
        have hbz : base ≤ W3.heap.size := by have := HZ3.out; omega
        refine GSt.putA H3.out hbz ⟨by have := (nameL_let hok.1).2.1; show a.name.length ≤ _; omega, by have := hok.2.2.2; show a.code.length ≤ _; omega⟩ (HN23.out _ _ e4) ?_ hch4 ?_ rfl hg4
        · intro _ k hk
          have hk2 : k = L0 := by
            cases oa3 with
            | none => cases hk
            | some ad => cases hk; exact e5 ad rfl
          subst hk2
          exact ⟨hb, by omega, fun e => by have := HS.out _ e; omega, fun e => by have := HA.out _ e; omega⟩
        · rw [e1, e3] at hown4
          exact hown4
      clear hc5 hown4 hch4 hg4 hblk4 e1 f1 d1a d1b d1 p0 p1 p2
      generalize w4.setCell ⟨gb, 1, none⟩ (.slice (some ⟨g2, 0, none⟩) (ps.length + 1) cap2) = W5 at *
      cases B3 with
      | false =>
        have hno : actionL ws = none := Option.not_isSome_iff_eq_none.1 (by rw [← HB3.out]; decide)
        have HON : Hid (O = none) := by show O = none; rw [HO.out, hno]
        clear hno
        go_wp2_with fail
        go_ret
        refine ⟨HC5.out, ?_⟩
        rw [HON.out]
        rfl
      | true =>
        obtain ⟨a, ha⟩ : ∃ a, actionL ws = some a := by
          have := HB3.out
          cases hh : actionL ws with
          | none => rw [hh] at this; cases this
          | some a => exact ⟨a, rfl⟩
        by_cases hlt : ps.length < 12
        · have hlt' : (ps.length : Int) + 1 ≤ 12 := by omega
          have HON : Hid (O = some (GrR.mk ss (ps.map (·.1) ++ [a]))) := by
            show O = _
            rw [HO.out, ha]
            simp [hlt]
          have HG := hid (HFIN.out a ha)
          clear ha
          go_wp2_with fail
          go_ret
          refine ⟨HC5.out, ?_⟩
          rw [HON.out]
          exact ⟨rfl, _, _, _, HG.out, by simp⟩
        · have hlt' : ¬ (ps.length : Int) + 1 ≤ 12 := by omega
          have d8 : decide ((ps.length : Int) + 1 ≤ 12) = false := decide_eq_false hlt'
          have HON : Hid (O = none) := by
            show O = _
            rw [HO.out, ha]
            simp [hlt]
          clear ha
          go_wp2_with fail
          go_ret
          refine ⟨HC5.out, ?_⟩
          rw [HON.out]
          rfl
  · have hl2 : ¬ (ws.length : Int) = 2 := by omega
    go_enter Tryd.func20, Tryd.ntmps20
    go_wp2_with (first | (go_at_call 36; refine hsp.mono ?_; rintro e w' ⟨rfl, hw'⟩; rw [hw']; clear hw') | (go_at_call 37; refine hact.mono ?_; rintro e w2 hp2; obtain ⟨hc2, s3, oa3, n3, cc3, cd3, B3, rfl, hB3, hf3⟩ := actPost_form hp2; clear hp2; have HC2 := hid hc2; have HB3 := hid hB3; have HF3 := hid hf3; clear hc2 hB3 hf3))
    have h3 : GSt base (w2.alloc (.cells #[.string s3, .slice oa3 n3 cc3, .string cd3] 42)) gb sv av ss ps := (H1.out.keep HC2.out).keep ((Chg.refl _ w2).alloc _)
    have hc13 : Chg (fun k => base ≤ k) w (w2.alloc (.cells #[.string s3, .slice oa3 n3 cc3, .string cd3] 42)) := (HC01.out.trans HC2.out (fun _ _ e => e.elim)).alloc _
    have hn23 : ∀ v ns, NamesAt w2 v ns → NamesAt (w2.alloc (.cells #[.string s3, .slice oa3 n3 cc3, .string cd3] 42)) v ns := fun v ns hh => hh.chg ((Chg.refl (fun _ => False) w2).alloc _) (fun _ _ e => e)
    have k6 := heap_alloc_new' w2 (.cells #[.string s3, .slice oa3 n3 cc3, .string cd3] 42)
    have hsz3 : L0 < (w2.alloc (.cells #[.string s3, .slice oa3 n3 cc3, .string cd3] 42)).heap.size := by have := HC2.out.size; have := HZ.out; simp; omega
    have d1 := cell_of h3.blk 1
    have p0 : (w2.alloc (.cells #[.string s3, .slice oa3 n3 cc3, .string cd3] 42)).cell? ⟨w2.heap.size, 0, none⟩ = some (.string s3) := (cell_of k6 0).trans rfl
    have p1 : (w2.alloc (.cells #[.string s3, .slice oa3 n3 cc3, .string cd3] 42)).cell? ⟨w2.heap.size, 1, none⟩ = some (.slice oa3 n3 cc3) := (cell_of k6 1).trans rfl
    have p2 : (w2.alloc (.cells #[.string s3, .slice oa3 n3 cc3, .string cd3] 42)).cell? ⟨w2.heap.size, 2, none⟩ = some (.string cd3) := (cell_of k6 2).trans rfl
    simp at d1
    have H3 := hid h3
    have HC13 := hid hc13
    have HZ3 := hid hsz3
    have HN23 := hid hn23
    clear h3 hc13 k6 hsz3 c1 q0 hn23 hsp hact
    generalize w2.alloc (.cells #[.string s3, .slice oa3 n3 cc3, .string cd3] 42) = W3 at *
    generalize w2.heap.size = A6 at *
    have d1a : (W3.alloc (.cells #[.string s3, .slice oa3 n3 cc3, .string cd3] 42)).drew.cell? ⟨gb, 1, none⟩ = some av := cell_alloc' d1 _
    have d1b : (W3.alloc (.cells #[.string s3, .slice oa3 n3 cc3, .string cd3] 42)).cell? ⟨gb, 1, none⟩ = some av := cell_alloc' d1 _
    go_region_law (refine step_append_new rfl _ _ 24 rfl elAct H3.out.ao rfl _ 1 1 rfl rfl rfl (by unfold maxLen; omega) (by omega) (by decide) ?_; intro g2 cap2 w4 hown4 hch4 hg4; have hblk4 := hch4.obj H3.out.blk (fun e => H3.out.ag e); have e1 := cell_of hblk4 1; have f1 := frozen_of hblk4 1; simp at e1)
    all_goals
      have hW5 := cell_of (heap_set_same hblk4 1 (.slice (some ⟨g2, 0, none⟩) (ps.length + 1) cap2)) 1
      simp at hW5
      have hc5 : Chg (fun k => base ≤ k) w (w4.setCell ⟨gb, 1, none⟩ (.slice (some ⟨g2, 0, none⟩) (ps.length + 1) cap2)) := (HC13.out.trans hch4 (fun i hi e => H3.out.bav i e)).setCell (p := ⟨gb, 1, none⟩) (fun _ => H3.out.bg) _
      have HC5 := hid hc5
      have HFIN : Hid (∀ a, actionL ws = some a → GSt base (w4.setCell ⟨gb, 1, none⟩ (.slice (some ⟨g2, 0, none⟩) (ps.length + 1) cap2)) gb sv (.slice (some ⟨g2, 0, none⟩) (ps.length + 1) cap2) ss (ps ++ [(a, .slice oa3 n3 cc3)])) := by
        intro a ha
        obtain ⟨e1, e2, e3, e4, e5⟩ := HF3.out a ha
        have hok := (actOK_iff a).1 (ws_actionL ws a ha).2
        have hbz : base ≤ W3.heap.size := by have := HZ3.out; omega
        refine GSt.putA H3.out hbz ⟨by have := (nameL_let hok.1).2.1; show a.name.length ≤ _; omega, by have := hok.2.2.2; show a.code.length ≤ _; omega⟩ (HN23.out _ _ e4) ?_ hch4 ?_ rfl hg4
        · intro _ k hk
          have hk2 : k = L0 := by
            cases oa3 with
            | none => cases hk
            | some ad => cases hk; exact e5 ad rfl
          subst hk2
          exact ⟨hb, by omega, fun e => by have := HS.out _ e; omega, fun e => by have := HA.out _ e; omega⟩
        · rw [e1, e3] at hown4
          exact hown4
      clear hc5 hown4 hch4 hg4 hblk4 e1 f1 d1a d1b d1 p0 p1 p2
      generalize w4.setCell ⟨gb, 1, none⟩ (.slice (some ⟨g2, 0, none⟩) (ps.length + 1) cap2) = W5 at *
      cases B3 with
      | false =>
        have hno : actionL ws = none := Option.not_isSome_iff_eq_none.1 (by rw [← HB3.out]; decide)
        have HON : Hid (O = none) := by show O = none; rw [HO.out, hno]
        clear hno
        go_wp2_with fail
        go_ret
        refine ⟨HC5.out, ?_⟩
        rw [HON.out]
        rfl
      | true =>
        obtain ⟨a, ha⟩ : ∃ a, actionL ws = some a := by
          have := HB3.out
          cases hh : actionL ws with
          | none => rw [hh] at this; cases this
          | some a => exact ⟨a, rfl⟩
        by_cases hlt : ps.length < 12
        · have hlt' : (ps.length : Int) + 1 ≤ 12 := by omega
          have HON : Hid (O = some (GrR.mk ss (ps.map (·.1) ++ [a]))) := by
            show O = _
            rw [HO.out, ha]
            simp [hlt]
          have HG := hid (HFIN.out a ha)
          clear ha
          go_wp2_with fail
          go_ret
          refine ⟨HC5.out, ?_⟩
          rw [HON.out]
          exact ⟨rfl, _, _, _, HG.out, by simp⟩
        · have hlt' : ¬ (ps.length : Int) + 1 ≤ 12 := by omega
          have d8 : decide ((ps.length : Int) + 1 ≤ 12) = false := decide_eq_false hlt'
          have HON : Hid (O = none) := by
            show O = _
            rw [HO.out, ha]
            simp [hlt]
          clear ha
          go_wp2_with fail
          go_ret
          refine ⟨HC5.out, ?_⟩
          rw [HON.out]
          rfl
end Go.Proofs.YtbaipdhgjalgoaaDoor
