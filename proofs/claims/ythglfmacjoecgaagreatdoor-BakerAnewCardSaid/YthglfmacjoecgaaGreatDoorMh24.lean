/- Texts of the proof, one behind the other: apiaryref06.step, all letters joined: what a step leaves is stepRM; mill.Steps walked: stepsG; apiaryref06.width, Steps, apiaryref01.Same walked; mill.isWide asked of inputs; (*machine).end. -/
import Derived.Test.YthglfmacjoecgaaGreatDoorMh23
import Derived.Test.YthglfmacjoecgaaGreatDoorMh07
import Derived.BigQuiet
import Derived.Test.YthglfmacjoecgaaGreatDoorMh01
namespace Go.Proofs.YthglfmacjoecgaaGreatDoor
open Go.RowKit

end Go.Proofs.YthglfmacjoecgaaGreatDoor
namespace Go.Proofs.YthglfmacjoecgaaGreatDoor
open Go.RowKit

theorem widN_le (code : ByteArray) (i : Nat) : i + widN code i ≤ code.size ∨ widN code i = 0 := by
  unfold widN
  split
  · split <;> omega
  · omega
end Go.Proofs.YthglfmacjoecgaaGreatDoor
namespace Go.Proofs.YthglfmacjoecgaaGreatDoor
open Go.RowKit

end Go.Proofs.YthglfmacjoecgaaGreatDoor
namespace Go.Proofs.YthglfmacjoecgaaGreatDoor
open Go.RowKit

theorem isWide_any (s : ByteArray) (hs : s.size ≤ maxLen) (w : World) : Calls Tryz.prog 58 #[.string s] w (Rets (.bool (decide (512 < s.size))) (fun w' => w = w')) := by
  unfold maxLen at hs
  by_cases h : 512 < s.size
  · have h' : (512 : Int) < s.size := by omega
    go_enter Tryz.func58, Tryz.ntmps58
    go_wp2
    go_ret
    exact ⟨by simp [h], rfl⟩
  · have h' : ¬ (512 : Int) < s.size := by omega
    go_enter Tryz.func58, Tryz.ntmps58
    go_wp2
    go_ret
    exact ⟨by simp, rfl⟩

set_option maxHeartbeats 1000000 in
theorem ixf_any (v : Value) (ss : List ByteArray) (w : World) (hin : StrsAt w v ss) :
    Calls Tryz.prog 92 #[v, .func (.func 58) #[] #[]] w (fun e w' => ∃ r : Int, e = .returned (.int .i64 r) ∧ (0 ≤ r ↔ ∃ s ∈ ss, 512 < s.size) ∧ w = w') := by
  have hlenI := fun W ty => hin.len (P := Tryz.prog) Tryz.underlying22 W ty
  have hmx := hin.2.1
  unfold maxLen at hmx
  have H := hid hin
  clear hin
  go_enter Tryz.func92, Tryz.ntmps92
  go_wp2_with fail
  go_loop [8] (fun i => ∃ k : Nat, k ≤ ss.length ∧ i = .int .i64 k ∧ ∀ j (h : j < ss.length), j < k → ss[j].size ≤ 512) (fun i => ss.length - (intOf i).toNat)
  case atStart => exact ⟨0, Nat.zero_le _, rfl, fun j _ h => absurd h (Nat.not_lt_zero _)⟩
  case round =>
    obtain ⟨k, hk, rfl, hall⟩ := hrel
    have HA := hid hall
    clear hall
    by_cases hkn : k < ss.length
    · have hkn' : (k : Int) < ss.length := by omega
      obtain ⟨ad, hix, hadc, hadb⟩ := H.out.ix (P := Tryz.prog) Tryz.underlying22 Tryz.sizeOf9 k hkn
      have hsk := H.out.2.2 _ (List.getElem_mem hkn)
      by_cases hw : 512 < ss[k].size
      · go_wp2_with (go_at_call 58; refine (isWide_any _ hsk _).mono ?_; rintro e w' ⟨rfl, rfl⟩)
        go_ret
        exact ⟨k, rfl, ⟨fun _ => ⟨_, List.getElem_mem hkn, hw⟩, fun _ => by omega⟩, rfl⟩
      · go_wp2_with (go_at_call 58; refine (isWide_any _ hsk _).mono ?_; rintro e w' ⟨rfl, rfl⟩)
        go_round
        case rel =>
          refine ⟨k + 1, by omega, by go_num, fun j hj hjk => ?_⟩
          by_cases e : j = k
          · subst e; omega
          · exact HA.out j hj (by omega)
        case measure => simp [intOf]; omega
    · obtain rfl : k = ss.length := by omega
      go_wp2_with fail
      go_ret
      refine ⟨_, rfl, ⟨fun h => absurd h (by decide), ?_⟩, rfl⟩
      rintro ⟨s, hs, hw⟩
      obtain ⟨j, hj, rfl⟩ := List.mem_iff_getElem.1 hs
      have := HA.out j hj hj
      omega

theorem cf_any (v : Value) (ss : List ByteArray) (w : World) (hin : StrsAt w v ss) :
    Calls Tryz.prog 57 #[v, .func (.func 58) #[] #[]] w (Rets (.bool (decide (∃ s ∈ ss, 512 < s.size))) (fun w' => w = w')) := by
  have hix := ixf_any v ss w hin
  clear hin
  go_enter Tryz.func57, Tryz.ntmps57
  go_wp2_with (go_at_call 92; refine hix.mono ?_; rintro e w' ⟨r, rfl, hr, rfl⟩)
  go_ret
  exact ⟨rfl, rfl⟩

/-- What (*machine).end answers. -/
def endR (l : List ByteArray) : Nat × ByteArray := match l.getLast? with | none => (31, .empty) | some b => (0, b)
def resV (c : Nat) (b : ByteArray) : Value := .agg #[.int .i64 c, .string b]

set_option maxRecDepth 100000 in
set_option maxHeartbeats 1000000 in
theorem end_any {B : Nat} {w : World} {b : Nat} {v : Value} {code : ByteArray} {inV : Value} {at_ : Nat} {l : List ByteArray} (h : MachV B w b v code inV at_ l) (hB : B ≤ w.heap.size) (hl : l.length ≤ 8) :
    Calls Tryz.prog 59 #[.pointer (some ⟨b, 0, none⟩)] w (Rets (resV (endR l).1 (endR l).2) (Chg (fun k => B ≤ k) w)) := by
  rcases List.eq_nil_or_concat l with rfl | ⟨r, p0, rfl⟩
  · have hpop := pop_less _ b v _ _ [] (h.alloc (.cells #[.int .i64 0, .string .empty] 47)).st 1 (by decide) (by decide)
    go_enter Tryz.func59, Tryz.ntmps59
    go_wp2_with (go_at_call 93; refine hpop.mono ?_; rintro e w1 ⟨rfl, rfl⟩)
    refine bodyPost_ret (v := resV 31 .empty) (by simp [results, Tryz.results59, go_sem]; rfl) rfl ⟨rfl, (Chg.refl _ w).alloc _⟩
  · have h' := h
    rw [List.concat_eq_append] at h' hl ⊢
    have hr : r.length ≤ 8 := by simp at hl; omega
    have hlt := h'.lt
    have hol := h'.own_lt
    have hpop := pop_ok _ b v _ _ _ (h'.alloc (.cells #[.int .i64 0, .string .empty] 47)).st 1 (by simp) (by decide) (by simp; omega)
    have e1 : (r ++ [p0]).length - 1 = r.length := by simp
    rw [e1, List.drop_left] at hpop
    have heR : endR (r ++ [p0]) = (0, p0) := by simp [endR]
    rw [heR]
    have hpop2 : Calls Tryz.prog 93 #[.pointer (some ⟨b, 0, none⟩), .int .i64 1] (w.alloc (.cells #[.int .i64 0, .string .empty] 47)) (fun e w1 => ∃ g cap, e = .returned (.tuple #[.slice (some ⟨g, 0, none⟩) 1 cap, .bool true]) ∧
        w1.cell? ⟨g, 0, none⟩ = some (.string p0) ∧ w1.heap[w.heap.size]? = some (.cells #[.int .i64 0, .string .empty] 47 (0, 0)) ∧ w.heap.size < g ∧ Chg (fun k => B ≤ k) w w1) := by
      refine hpop.mono ?_
      rintro e w1 ⟨lv, rfl, ⟨v1, hS1, hv1, hch1⟩, hlv⟩
      obtain ⟨g, cap, rfl, hcap, hgl⟩ := owns_some hlv (by decide)
      have hgw := (World.ownsRow.lt hlv g rfl).1
      refine ⟨g, cap, rfl, hlv.cellAt 0 (by decide), hch1.obj (heap_alloc_new w (.cells #[.int .i64 0, .string .empty] 47)) ?_, Nat.lt_of_succ_le (by rw [show (w.alloc (.cells #[.int .i64 0, .string .empty] 47)).heap.size = w.heap.size + 1 from by simp] at hgw; exact hgw), ?_⟩
      · rintro (e | e)
        · omega
        · have := hol _ e; omega
      · refine ((Chg.refl _ w).alloc _).trans hch1 ?_
        rintro i hi (rfl | e)
        · exact h'.hb
        · exact h'.hv i e
    clear hpop
    go_enter Tryz.func59, Tryz.ntmps59
    go_wp2_with (go_at_call 93; refine hpop2.mono ?_; rintro e w1 ⟨g, cap, rfl, e0, k1, hgw, hch⟩; have c0 := cell_of k1 0; have c1 := cell_of k1 1; have f0 := frozen_of k1 0; have f1 := frozen_of k1 1)
    have y0 := heap_set_same k1 0 (.int .i64 0)
    have x0 : (w1.setCell ⟨w.heap.size, 0, none⟩ (.int .i64 0)).cell? ⟨w.heap.size, 0, none⟩ = some (.int .i64 0) := cell_of y0 0
    have x1 : ((w1.setCell ⟨w.heap.size, 0, none⟩ (.int .i64 0)).setCell ⟨w.heap.size, 1, none⟩ (.string p0)).cell? ⟨w.heap.size, 1, none⟩ = some (.string p0) := cell_of (heap_set_same y0 1 _) 1
    refine bodyPost_ret (v := resV 0 p0) (by simp [results, Tryz.results59, go_sem, x0, x1]; rfl) rfl ⟨rfl, (hch.setCell (p := ⟨w.heap.size, 0, none⟩) (fun _ => hB) _).setCell (p := ⟨w.heap.size, 1, none⟩) (fun _ => hB) _⟩
end Go.Proofs.YthglfmacjoecgaaGreatDoor
