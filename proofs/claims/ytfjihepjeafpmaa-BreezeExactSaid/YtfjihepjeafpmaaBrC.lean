/- Copy, Flip, Cut, Heal, Apart of a Breeze walked. -/
import Derived.Test.YtfjihepjeafpmaaBrB
import Derived.BigQuiet
import Derived.Deep.RegionLaw
namespace Go.Proofs.Ytfjihepjeafpmaa
open Go.RowKit

section
variable {w : World} {b mb : Nat} {v : Value} {ls : List Ld} {l : List ((Int × Int) × Bool)}

set_option maxRecDepth 100000 in
set_option maxHeartbeats 400000 in
theorem copy_no (h : BrAt w b mb v ls l) (at_ : Int) (ha : isB ls at_ = false ∨ 200 ≤ ls.length) :
    Calls Try.prog 12 #[.pointer (some ⟨b, 0, none⟩), .int .i64 at_] w (Rets (.bool false) (fun w' => w = w')) := by
  have hb0 := cell_of h.blk 0
  simp at hb0
  have hlen := run_len_own (P := Try.prog) Try.underlying54 h.own
  by_cases hi : isB ls at_ = false
  · clear ha
    go_enter Try.func12, Try.ntmps12
    go_wp2_with (go_at_call 27; refine (is_any h at_).mono ?_; rintro e w' ⟨rfl, rfl⟩)
    go_ret
    exact ⟨rfl, rfl⟩
  · have hi' : isB ls at_ = true := by simpa using hi
    have hl : 200 ≤ (ls.length : Int) := by rcases ha with h | h; exact absurd h hi; omega
    clear ha hi
    go_enter Try.func12, Try.ntmps12
    go_wp2_with (go_at_call 27; refine (is_any h at_).mono ?_; rintro e w' ⟨rfl, rfl⟩)
    go_ret
    exact ⟨rfl, rfl⟩

set_option maxRecDepth 100000 in
set_option maxHeartbeats 400000 in
theorem copy_yes (h : BrAt w b mb v ls l) (i : Nat) (x : Ld) (hi : ls[i]? = some x) (hl : ls.length < 200) :
    Calls Try.prog 12 #[.pointer (some ⟨b, 0, none⟩), .int .i64 i] w (Rets (.bool true) (BrPost w b mb v (ls ++ [x]) l)) := by
  have hlt : i < ls.length := (List.getElem?_eq_some_iff.1 hi).1
  obtain ⟨g, cap, rfl, hcap, hg⟩ := owns_some h.own (by omega)
  have hle := h.le
  obtain ⟨c0, c1, c2, c3⟩ := load_cells h.own hi
  have hb0 := cell_of h.blk 0
  have hbf := frozen_of h.blk 0
  simp at hb0
  have hgb : g ≠ b := by have := h.ne; simpa [Value.ownBlock] using this
  have hisb : isB ls i = true := by simp [isB]; omega
  have hlt' : (i : Int) < ls.length := by omega
  have hl' : (ls.length : Int) < 200 := by omega
  have hbl := heap_lt h.blk
  go_enter Try.func12, Try.ntmps12
  go_wp2_with (first | (go_at_call 27; refine (is_any h i).mono ?_; rintro e w' ⟨rfl, rfl⟩))
  go_region_law (refine step_append_new rfl _ _ 54 rfl elLoad h.own rfl _ 1 1 rfl rfl rfl (by unfold maxLen; omega) (by omega) (by decide) ?_; intro g2 cap2 w1 hown1 hchg hg2; have hblk1 := hchg.obj h.blk h.ne; have e1 := cell_of hblk1 0; have f1 := frozen_of hblk1 0; simp at e1)
  all_goals
    go_wp2
    go_ret
    have hgb2 : g2 ≠ b := by
      rintro rfl
      rcases hg2 with h | h
      · simp [Value.ownBlock] at h; exact hgb h
      · omega
    have hown2 := ownsRow_setCell_other hown1 (a := ⟨b, 0, none⟩) (by simpa [Value.ownBlock] using hgb2) (.slice (some ⟨g2, 0, none⟩) (ls.length + 1) cap2)
    refine ⟨rfl, ⟨_, ⟨heap_set_same hblk1 0 _, ?_, by simpa [Value.ownBlock] using hgb2, ?_, by simp; omega⟩, ?_, ?_⟩⟩
    · rw [flat_append, List.length_append]
      exact hown2
    · exact (h.map.chg hchg h.ne2).chg ((Chg.refl (fun k => k = b) w1).setCell (fun _ => rfl) _) h.ne3
    · exact (hchg.mono (fun _ _ h => .inr (.inr h))).setCell (fun _ => .inl rfl) _
    · intro k hk
      simp [Value.ownBlock] at hk
      subst hk
      exact hg2

def encK (x y : Int) : Int × Int := (if y < x then y else x, if x < y then y else x)
theorem eqP (p q : Int × Int) (w : World) : (Op.equal 63 (encP p) (encP q)).run Try.prog w = .ok (decide (p = q)) w := by
  obtain ⟨a, b⟩ := p
  obtain ⟨c, d⟩ := q
  have hs : Try.prog.stoodInHeld 63 = false := by kernel_rfl
  unfold Op.equal Op.maxDepth encP
  show (Op.equalIn (9998 + 1 + 1) 63 (.agg #[.int .i64 a, .int .i64 b]) (.agg #[.int .i64 c, .int .i64 d])).run Try.prog w = _
  simp [go_sem, hs]
  by_cases h1 : a = c <;> by_cases h2 : b = d <;> simp [h1, h2]
theorem keyP : KeyT Try.prog 63 encP where
  find encv es l k w hm := findKey_asking Try.underlying63 (fun a b => by cases a <;> rfl) encP encv eqP es l k w hm
  check b k w := by
    obtain ⟨x, y⟩ := k
    unfold encP
    have hi : ∀ n z w, (Instr.checkKey b (n + 1) 3 (.int .i64 z)).run Try.prog w = .ok () w := fun n z w => by
      unfold Instr.checkKey
      simp [run_underlying Try.underlying3]
    have hi' : ∀ z w, (Instr.checkKey b 9999 3 (.int .i64 z)).run Try.prog w = .ok () w := hi 9998
    show (Instr.checkKey b (9999 + 1) 63 _).run Try.prog w = _
    unfold Instr.checkKey
    simp [run_underlying Try.underlying63, go_sem, hi']
  same k := by
    show Instr.sameBits (9998 + 1 + 1) _ _ = _
    simp [encP, Instr.sameBits]
end
end Go.Proofs.Ytfjihepjeafpmaa
