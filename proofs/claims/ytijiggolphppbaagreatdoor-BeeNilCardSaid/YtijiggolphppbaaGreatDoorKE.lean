/- (*hive.Hive).Keys where nothing is kept. -/
import Derived.Test.YtijiggolphppbaaGreatDoorKP
import Derived.RangeFuncFrom
import Derived.RangeFuncNested
import Derived.RangeFuncBound
import Derived.RangeFuncCalls
import Derived.RangeFuncLeaves
import Derived.Shelf.Abstract
import Derived.Shelf.RegionOpen
import Derived.WalkKit
import Derived.OwnWalkIn
import Derived.TacticsInMore
import Derived.LoopNIn
import Derived.LoopIn
import Derived.Laws.IdiomRangeMap
namespace Go.Proofs.YtijiggolphppbaaGreatDoor
open Go.RowKit Go.Proofs.YtijiggolphppbaaGreatDoor.Ev Go.Maps Go.Sort Go.Shelf
attribute [local go_sem] Oper.semAt_some
theorem sortNil_any (w : World) (hJ : Words w) : Calls Tryz.prog 137 #[.slice none 0 0, .func (.func 138) #[] #[]] w fun e w' => e = .returned (.tuple #[]) ∧ Below w.heap.size w w' := by
  have hs : VRs (Cx.none w) [.sl none 0 0, .fn (.func 138) [] []] (#[.slice none 0 0, .func (.func 138) #[] #[]] : Array Value).toList := .cons (.sl0 _) (.cons (.fn _ .nil .nil) .nil)
  rcases sortNil_ok (Cx.none w) w _ hJ hs (Sim.nothing w (by unfold MX; omega)) with ⟨v, w', c', h1, _⟩ | ⟨_, h2⟩
  · rw [enters_of Tryz.func137 (by kernel_rfl) rfl] at h1
    cases h1
  · refine h2.mono ?_
    rintro e w' ⟨v, c', rfl, hp, hv⟩
    cases hv with
    | tup h =>
      cases h
      exact ⟨rfl, hp.os, hp.tape, hp.output, hp.size, fun b hb => hp.block b hb (fun n o hd => hd.elim)⟩
set_option maxRecDepth 100000 in
set_option maxHeartbeats 1000000 in
theorem keys1_empty (n : Nat) (l Bm r clock : Nat) (J : List Empty → World → Prop) (W : World) (hJ : AbidesFrom W.heap.size J)
    (hm : W.cell? ⟨Bm, 0, none⟩ = some (.map (some r))) (hr : W.heap[r]? = some (.map #[] clock)) (h0 : J [] W) :
    CallsIn Fence.wide n Tryz.prog 242 #[.func (.yield l) #[] #[], .pointer (some ⟨Bm, 0, none⟩)] W fun e W' => (∃ v, e = .returned v) ∧ ∃ ss : List Empty, ss = [] ∧ J ss W' := by
  refine callsIn_of_wp Tryz.func242 rfl trivial ?_ rfl
  simp only [Tryz.ntmps242, List.size_toArray, List.length_cons, List.length_nil, Nat.reduceAdd, Nat.reduceSub, Array.replicate_succ, Array.replicate_zero, List.push_toArray, List.append_toArray, List.nil_append, List.cons_append]
  have hrg := run_range_map (P := Tryz.prog) W 131 _ _ r #[] clock Tryz.underlying131 hr
  have hnx : ∀ ty, (Instr.next (.pointer (some ⟨W.heap.size, 0, none⟩)) false ty).run Tryz.prog (W.alloc (.mapIter (some r) clock #[] clock)) = .ok (.tuple #[.bool false]) (W.alloc (.mapIter (some r) clock #[] clock)) := fun ty => by
    rcases run_next_map (P := Tryz.prog) W ty r clock clock #[] #[] clock hr (by simp) (Nat.le_refl _) with h | ⟨e, he, _⟩
    · exact h.2
    · simp [leftOf] at he
  gi_wp2
  refine wpIn_loop_rounds 1 ?_
  rw [roundsIn_succ]
  gi_wp2
  go_end0
  exact ⟨⟨_, rfl⟩, [], rfl, hJ [] W _ none h0 (World.grownBy_alloc W _ none) (fun r e => by cases e)⟩
def encE : Empty → Array Value := fun x => x.elim
theorem keys_stops (n : Nat) (Kp : World → World → Prop) (Bm r clock : Nat) (w : World) (hBm : Bm < w.heap.size) (hm : w.cell? ⟨Bm, 0, none⟩ = some (.map (some r))) (hr : w.heap[r]? = some (.map #[] clock)) :
    SeqStopsK Fence.wide n Tryz.prog 242 #[.pointer (some ⟨Bm, 0, none⟩)] encE Kp (fun xs => xs = []) (fun _ => False) 0 w := fun l J _ W hW hJ _ _ h0 =>
  (keys1_empty n l Bm r clock J W hJ ((hW.cell (p := ⟨Bm, 0, none⟩) hBm).trans hm) ((hW.block r (Array.getElem?_eq_some_iff.1 hr).1).trans hr) h0).mono (fun _ _ h => ⟨h.1, .inl h.2⟩)
theorem mapsKeys_in (n : Nat) (mb : Option Nat) (w : World) :
    CallsIn Fence.wide n Tryz.prog 136 #[.map mb] w fun e w' => e = .returned (.func (.func 242) #[] #[.pointer (some ⟨w.heap.size, 0, none⟩)]) ∧ w' = w.alloc (.cells #[.map mb] 131) := by
  refine callsIn_of_wp Tryz.func136 rfl trivial ?_ rfl
  simp only [Tryz.ntmps136, List.size_toArray, List.length_cons, List.length_nil, Nat.reduceAdd, Nat.reduceSub, Array.replicate_succ, Array.replicate_zero, List.push_toArray, List.append_toArray, List.nil_append, List.cons_append]
  gi_wp2
  go_ret
  exact ⟨rfl, rfl⟩
theorem cell_of_box_l {W : World} {B : Nat} {v : Value} {t : TypeId} (h : W.heap[B]? = some (.cells #[v] t (0, 0))) : W.cell? ⟨B, 0, none⟩ = some v ∧ W.frozen? ⟨B, 0, none⟩ = false := by
  constructor <;> simp [World.cell?, World.frozen?, h]
theorem cell_new_l (W : World) (v : Value) (t : TypeId) : (W.alloc (.cells #[v] t)).cell? ⟨W.heap.size, 0, none⟩ = some v ∧ (W.alloc (.cells #[v] t)).frozen? ⟨W.heap.size, 0, none⟩ = false :=
  cell_of_box_l (World.alloc_heap_new W _)
theorem cell_alloc_l {W : World} {a : Addr} {v : Value} (o : Obj) (h : W.cell? a = some v) : (W.alloc o).cell? a = some v := cell_kept h (World.grownBy_alloc W o none) (fun r e => by cases e)
theorem frozen_alloc_l {W : World} {a : Addr} {v : Value} (o : Obj) (h : W.cell? a = some v) (hf : W.frozen? a = false) : (W.alloc o).frozen? a = false := (frozen_kept h (World.grownBy_alloc W o none) (fun r e => by cases e)).trans hf
theorem words_below {w w' : World} (h : Words w) (hb : Below w.heap.size w w') : Words w' := by
  obtain ⟨h1, h2⟩ := h
  refine ⟨?_, Nat.lt_of_lt_of_le h2 hb.size⟩
  unfold Lib.TabIs World.var? at h1 ⊢
  rw [wdG] at h1 ⊢
  simp only [Option.bind_some] at h1 ⊢
  rw [hb.block gWd h2]
  exact h1
set_option maxRecDepth 100000 in
set_option maxHeartbeats 2000000 in
theorem hiveKeys_in (w : World) (hJ : Words w) (b o r clock : Nat) (hc : w.cell? ⟨b, o + 1, none⟩ = some (.map (some r))) (hr : w.heap[r]? = some (.map #[] clock)) :
    CallsIn Fence.wide 6 Tryz.prog 66 #[.pointer (some ⟨b, o, none⟩)] w fun e w' => e = .returned (.slice none 0 0) ∧ Below w.heap.size w w' := by
  have h1 : 1 ≤ 6 := by omega
  have h3 : Fence.wide.fn 136 := trivial
  have h4 : Fence.wide.fn 137 := trivial
  have hc1 : ∀ o', (w.alloc o').cell? ⟨b, o + 1, none⟩ = some (.map (some r)) := fun o' => cell_alloc_l _ hc
  refine callsIn_of_wp_marks Tryz.func66 rfl trivial ?_ rfl
  simp only [Tryz.ntmps66, List.size_toArray, List.length_cons, List.length_nil, Nat.reduceAdd, Nat.reduceSub, Array.replicate_succ, Array.replicate_zero, List.push_toArray, List.append_toArray, List.nil_append, List.cons_append]
  gi_wp2_with (gi_at_call 136; refine (mapsKeys_in _ _ _).mono ?_; rintro e w' ⟨rfl, rfl⟩)
  have hs := cell_new_l w (.slice none 0 0) 42
  have hb := cell_new_l (w.alloc (.cells #[.slice none 0 0] 42)) (.map (some r)) 131
  rw [World.size_alloc] at hb
  have hB0 : Below w.heap.size w ((w.alloc (.cells #[.slice none 0 0] 42)).alloc (.cells #[.map (some r)] 131)) := ((Below.refl _ w).alloc (Nat.le_refl _) _).alloc (by simp) _
  refine wpIn_rangeFunc_ownF rfl h1 (gf := 242) (lb := #[.pointer (some ⟨w.heap.size + 1, 0, none⟩)]) rfl trivial (enters_of Tryz.func242 (by kernel_rfl) rfl)
    (keys_stops _ (Below w.heap.size) (w.heap.size + 1) r clock _ (by simp) hb.1 ((hB0.block r (Array.getElem?_eq_some_iff.1 hr).1).trans hr)) belowK_t (belowK_b (by simp; omega)) (Below.refl _ _) (fun x => x.elim)
    (fun _ W => (W.cell? ⟨w.heap.size, 0, none⟩ = some (.slice none 0 0) ∧ W.frozen? ⟨w.heap.size, 0, none⟩ = false) ∧ Below w.heap.size w W)
    (fun _ _ _ => False)
    (OwnFrom.and (Own.from (fun s A B row hs hg hr => ⟨cell_kept hs.1 hg hr, (frozen_kept hs.1 hg hr).trans hs.2⟩) _) (ownFrom_below (Nat.le_refl _) (by simp; omega)))
    (fun _ _ _ _ _ hs _ _ => hs)
    ⟨⟨cell_alloc_l _ hs.1, frozen_alloc_l _ hs.1 hs.2⟩, hB0⟩
    (fun x => x.elim) (fun _ x => x.elim) (fun _ _ x => x.elim) ?done ?stop
  case done =>
    rintro D ys W hD _ ⟨⟨hc, hf⟩, hB⟩ hK
    have hDlt : D < W.heap.size := (Array.getElem?_eq_some_iff.1 hK).1
    have hlt : w.heap.size < W.heap.size := by simp at hD; omega
    have hSN := sortNil_any W (words_below hJ hB)
    gi_wp2_with (gi_at_call 137; refine (callsIn_wide.2 hSN).mono ?_; rintro e w2 ⟨rfl, hB2⟩; have hc2 := (hB2.cell (p := ⟨w.heap.size, 0, none⟩) hlt).trans hc; have hK2 := (hB2.block D hDlt).trans hK)
    refine ⟨by simp, .inl ⟨_, _, rfl, run_takeDeferred hK2, ?_⟩⟩
    exact ⟨_, results_tmp rfl _ _ _, rfl, (hB.trans (hB2.mono hB.size)).trans (belowK_b (w := w) (Nat.le_refl _) w2 D _ _ (by simp at hD; omega) hK2 rfl rfl)⟩
  case stop =>
    rintro D c pre W _ _ h _
    exact h.elim
end Go.Proofs.YtijiggolphppbaaGreatDoor
