/- apiaryref20 walked: Copy. -/
import Derived.Test.YtfjihepjeafpmaaBrT
namespace Go.Proofs.Ytfjihepjeafpmaa
open Go.RowKit
theorem cell_alloc' {w : World} {a : Addr} {v : Value} (h : w.cell? a = some v) (o : Obj) : (w.alloc o).cell? a = some v := ((Chg.refl (fun _ => False) w).alloc o).cell h (fun h => h)
section
variable {w : World} {u : Nat} {v : Value} {ls : List Ld} {A : List Bool}

set_option maxRecDepth 100000 in
set_option maxHeartbeats 1000000 in
theorem rcopy_no (h : RfAt w u v ls A) (at_ : Int) (ha : isB ls at_ = false ∨ 200 ≤ ls.length) :
    Calls Try.prog 17 #[.pointer (some ⟨u, 0, none⟩), .int .i64 at_] w (Rets (.bool false) (fun w' => w = w')) := by
  have c0 := h.c0
  have hlen := run_len_own (P := Try.prog) Try.underlying40 h.own
  clear h
  by_cases h0 : at_ < 0
  · clear ha
    go_enter Try.func17, Try.ntmps17
    go_wp2_with fail
    go_ret
    exact ⟨rfl, rfl⟩
  · have d0 : decide (at_ < 0) = false := decide_eq_false h0
    by_cases h1 : (ls.length : Int) ≤ at_
    · clear ha
      go_enter Try.func17, Try.ntmps17
      go_wp2_with fail
      go_ret
      exact ⟨rfl, rfl⟩
    · have d1 : decide ((ls.length : Int) ≤ at_) = false := decide_eq_false h1
      have h2 : (200 : Int) ≤ (ls.length : Int) := by
        rcases ha with h | h
        · unfold isB at h; simp at h; omega
        · omega
      clear ha
      go_enter Try.func17, Try.ntmps17
      go_wp2_with fail
      go_ret
      exact ⟨rfl, rfl⟩

set_option maxRecDepth 100000 in
set_option maxHeartbeats 1000000 in
theorem rcopy_yes (h : RfAt w u v ls A) (i : Nat) (x : Ld) (hi : ls[i]? = some x) (hl : ls.length < 200) :
    Calls Try.prog 17 #[.pointer (some ⟨u, 0, none⟩), .int .i64 i] w (Rets (.bool true) (RfPost w u v (ls ++ [x]) A)) := by
  have hlt : i < ls.length := (List.getElem?_eq_some_iff.1 hi).1
  obtain ⟨g, cap, rfl, hcap, hg⟩ := owns_some h.own (by omega)
  have hle := h.le
  obtain ⟨c0, c1, c2, c3⟩ := load_cells2 h.own hi
  have u0 := h.c0
  have uf := h.fz 0
  have hlt' : (i : Int) < ls.length := by omega
  have d0 : decide ((i : Int) < 0) = false := decide_eq_false (by omega)
  have d1 : decide ((ls.length : Int) ≤ (i : Int)) = false := decide_eq_false (by omega)
  have hl' : ¬ (200 : Int) ≤ (ls.length : Int) := by omega
  have d2 : decide ((200 : Int) ≤ (ls.length : Int)) = false := decide_eq_false hl'
  have H := hid h
  have ua : ((w.alloc (.cells #[.int .i64 x.fr, .int .i64 x.to, .string x.by_, .bool x.fl] 47)).drew).cell? ⟨u, 0, none⟩ = some (.slice (some ⟨g, 0, none⟩) ls.length cap) := cell_alloc' u0 _
  have ub : (w.alloc (.cells #[.int .i64 x.fr, .int .i64 x.to, .string x.by_, .bool x.fl] 47)).cell? ⟨u, 0, none⟩ = some (.slice (some ⟨g, 0, none⟩) ls.length cap) := cell_alloc' u0 _
  clear h hi
  go_enter Try.func17, Try.ntmps17
  go_wp2_with fail
  go_region_law (refine step_append_new rfl _ _ 40 rfl elLoad2 H.out.own rfl _ 1 1 rfl rfl rfl (by unfold maxLen; omega) (by omega) (by decide) ?_; intro g2 cap2 w1 hown1 hchg hg2; have hblk1 := hchg.obj H.out.blk H.out.ne; have e1 := (cell_of hblk1 0).trans rfl; have f1 := frozen_of hblk1 0)
  all_goals
    go_wp2
    go_ret
    refine ⟨rfl, H.out.setV (ls' := ls ++ [x]) ?_ hchg (fun k hk => by simp [Value.ownBlock] at hk; subst hk; exact hg2) (by simp; omega)⟩
    rw [flat_append, List.length_append]
    exact hown1
end
end Go.Proofs.Ytfjihepjeafpmaa
