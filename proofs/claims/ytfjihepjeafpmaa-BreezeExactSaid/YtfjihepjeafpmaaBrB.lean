/- Take, Copy, Flip, Cut, Heal, Apart of a Breeze walked. -/
import Derived.Test.YtfjihepjeafpmaaBrA
import Derived.StillTailTactics
namespace Go.Proofs.Ytfjihepjeafpmaa
open Go.RowKit

theorem flat_one (l : Ld) : ∀ u ∈ l.cells, u.oneCell' = true := by
  intro u hu
  simp [Ld.cells] at hu
  rcases hu with rfl | rfl | rfl | rfl <;> rfl
theorem flat_all (ls : List Ld) : ∀ u ∈ flat ls, u.oneCell' = true := by
  intro u hu
  obtain ⟨l, _, h⟩ := List.mem_flatMap.1 hu
  exact flat_one l u h
theorem flat_take : ∀ (ls : List Ld) (i : Nat), (flat ls).take (i * 4) = flat (ls.take i)
  | [], i => by simp [flat]
  | _ :: _, 0 => by simp [flat]
  | l :: ls, i + 1 => by
    have ih := flat_take ls i
    simp only [flat, List.flatMap_cons, List.take_succ_cons] at ih ⊢
    rw [← ih]
    simp [Ld.cells, show (i + 1) * 4 = i * 4 + 4 from by omega]
theorem flat_drop : ∀ (ls : List Ld) (i : Nat), (flat ls).drop (i * 4) = flat (ls.drop i)
  | [], i => by simp [flat]
  | _ :: _, 0 => by simp [flat]
  | l :: ls, i + 1 => by
    have ih := flat_drop ls i
    simp only [flat, List.flatMap_cons, List.drop_succ_cons] at ih ⊢
    rw [← ih]
    simp [Ld.cells, show (i + 1) * 4 = i * 4 + 4 from by omega]
theorem flat_erase (ls : List Ld) (i : Nat) : (flat ls).take (i * 4) ++ (flat ls).drop ((i + 1) * 4) = flat (ls.eraseIdx i) := by
  rw [flat_take, flat_drop, ← flat_append, List.eraseIdx_eq_take_drop_succ]
theorem flat_get (ls : List Ld) (i j : Nat) (hj : j < 4) : (flat ls)[i * 4 + j]? = (ls[i]?).bind fun l => l.cells[j]? := by
  rw [← List.getElem?_drop, flat_drop]
  cases hd : ls.drop i with
  | nil =>
    have : ls[i]? = none := by rw [List.getElem?_eq_none_iff]; have := congrArg List.length hd; simp at this; omega
    simp [this, flat]
  | cons l r =>
    have : ls[i]? = some l := by have h0 := List.getElem?_drop (xs := ls) (i := i) (j := 0); rw [hd] at h0; simpa using h0.symm
    rw [this]
    simp only [flat, List.flatMap_cons, Option.bind_some]
    rw [List.getElem?_append_left (by simp [Ld.cells]; omega)]

set_option maxRecDepth 100000 in
set_option maxHeartbeats 400000 in
theorem delete_ok {w : World} {g cap : Nat} {ls : List Ld} (hown : w.ownsRow 0 29 4 (.slice (some ⟨g, 0, none⟩) ls.length cap) ls.length (flat ls)) (i : Nat) (hi : i < ls.length) (hl : ls.length ≤ 200) :
    Calls Try.prog 28 #[.slice (some ⟨g, 0, none⟩) ls.length cap, .int .i64 i, .int .i64 (i + 1)] w
      (Rets (.slice (some ⟨g, 0, none⟩) (ls.length - 1) cap) (fun w' => w'.ownsRow 0 29 4 (.slice (some ⟨g, 0, none⟩) (ls.length - 1) cap) (ls.length - 1) (flat (ls.eraseIdx i)) ∧ Chg (fun k => k = g) w w')) := by
  obtain ⟨cur, hg, hnc, hcm, hcs, htake⟩ := ownsRow_heap hown
  have HI := hid hcs
  have HT := hid htake
  clear hcs htake
  have hie : (i : Int) < (ls.length : Int) := by omega
  have hne : ((i : Int) == (i : Int) + 1) = false := by simp; omega
  have hcap : (ls.length : Int) ≤ (cap : Int) := by omega
  have hic : (i : Int) ≤ (cap : Int) := by omega
  have hi1 : (i : Int) + 1 ≤ (ls.length : Int) := by omega
  have hi0 : (0 : Int) ≤ (i : Int) + 1 := by omega
  go_enter Try.func28, Try.ntmps28
  go_wp2_with fail
  go_still_tail 6, (by kernel_rfl)
  obtain ⟨ad, had, hads⟩ : ∃ ad : Addr, (if cap = i + 1 then some (⟨g, 0, none⟩ : Addr) else some ⟨g, (i + 1) * 4, none⟩) = some ad ∧ (i + 1 < ls.length → ad = ⟨g, (i + 1) * 4, none⟩) := by
    by_cases hcc : cap = i + 1
    · exact ⟨_, by rw [if_pos hcc], fun h => by omega⟩
    · exact ⟨_, by rw [if_neg hcc], fun _ => rfl⟩
  rw [had]
  change wpList _ _ _ _ _ w.drew
  refine wpList_append_shift rfl _ _ 54 rfl elLoad (hown : w.drew.ownsRow _ _ _ _ _ _) (flat_all ls) i hi ad hads _ _ rfl rfl rfl ?_
  intro w1 hown1 hchg1
  rw [flat_erase] at hown1
  obtain ⟨w2, hclr, hown2, hchg2⟩ := run_clear_tail elLoad hown1 (ls.length - (ls.length - 1)) (cap - (ls.length - 1)) (by omega) (by omega) 0
  clear had hads
  go_wp2_with fail
  go_ret
  exact ⟨rfl, hown2, (((Chg.refl _ w).drew.trans hchg1 (fun _ _ h => h)).trans hchg2 (fun _ _ h => h))⟩

theorem load_cells {w : World} {g cap : Nat} {ls : List Ld} (hown : w.ownsRow 0 29 4 (.slice (some ⟨g, 0, none⟩) ls.length cap) ls.length (flat ls)) {i : Nat} {x : Ld} (hi : ls[i]? = some x) :
    w.cell? ⟨g, i * 4, none⟩ = some (.int .i64 x.fr) ∧ w.cell? ⟨g, i * 4 + 1, none⟩ = some (.int .i64 x.to) ∧ w.cell? ⟨g, i * 4 + 2, none⟩ = some (.string x.by_) ∧ w.cell? ⟨g, i * 4 + 3, none⟩ = some (.bool x.fl) := by
  have hlt : i < ls.length := (List.getElem?_eq_some_iff.1 hi).1
  have h := fun j (hj : j < 4) => (hown.cellAt (i * 4 + j) (by omega)).trans (flat_get ls i j hj)
  simp only [hi, Option.bind_some] at h
  exact ⟨h 0 (by omega), h 1 (by omega), h 2 (by omega), h 3 (by omega)⟩

theorem BrAt.chg {w w' : World} {b mb : Nat} {v : Value} {ls : List Ld} {l : List ((Int × Int) × Bool)} {F : Nat → Prop} (h : BrAt w b mb v ls l) (hc : Chg F w w') (h1 : ¬ F b) (h2 : ¬ F mb) (h3 : ∀ k, v.ownBlock = some k → ¬ F k) : BrAt w' b mb v ls l :=
  ⟨hc.obj h.blk h1, hc.owns h.own h3, h.ne, h.map.chg hc h2, h.le⟩
theorem BrAt.post_chg {w w' : World} {b mb : Nat} {v : Value} {ls : List Ld} {l : List ((Int × Int) × Bool)} (h : BrAt w b mb v ls l) (hc : Chg (fun _ => False) w w') : BrPost w b mb v ls l w' :=
  ⟨v, h.chg hc (fun h => h) (fun h => h) (fun _ _ h => h), hc.mono (fun _ _ h => h.elim), fun _ h => .inl h⟩

section
variable {w : World} {b mb : Nat} {v : Value} {ls : List Ld} {l : List ((Int × Int) × Bool)}

set_option maxRecDepth 100000 in
set_option maxHeartbeats 400000 in
theorem take_no (h : BrAt w b mb v ls l) (at_ : Int) (ha : isB ls at_ = false) :
    Calls Try.prog 11 #[.pointer (some ⟨b, 0, none⟩), .int .i64 at_] w
      (Rets (.tuple #[.agg #[.int .i64 0, .int .i64 0, .string ByteArray.empty, .bool false], .bool false]) (BrPost w b mb v ls l)) := by
  go_enter Try.func11, Try.ntmps11
  go_wp2_with (go_at_call 27; refine (is_any (h.chg ((Chg.refl (fun _ => False) w).alloc _) (fun h => h) (fun h => h) (fun _ _ h => h)) at_).mono ?_; rintro e w' ⟨rfl, rfl⟩)
  exact bodyPost_ret (v := .tuple #[.agg #[.int .i64 0, .int .i64 0, .string ByteArray.empty, .bool false], .bool false]) (by simp [results, Try.results11, go_sem]; rfl) rfl ⟨rfl, h.post_chg ((Chg.refl _ w).alloc _)⟩

set_option maxRecDepth 100000 in
set_option maxHeartbeats 400000 in
theorem take_yes (h : BrAt w b mb v ls l) (i : Nat) (x : Ld) (hi : ls[i]? = some x) :
    Calls Try.prog 11 #[.pointer (some ⟨b, 0, none⟩), .int .i64 i] w
      (Rets (.tuple #[.agg #[.int .i64 x.fr, .int .i64 x.to, .string x.by_, .bool x.fl], .bool true]) (BrPost w b mb v (ls.eraseIdx i) l)) := by
  have hlt : i < ls.length := (List.getElem?_eq_some_iff.1 hi).1
  obtain ⟨g, cap, rfl, hcap, hg⟩ := owns_some h.own (by omega)
  have hle := h.le
  obtain ⟨c0, c1, c2, c3⟩ := load_cells h.own hi
  have hb0 := cell_of h.blk 0
  have hbf := frozen_of h.blk 0
  simp at hb0
  have hgb : g ≠ b := by have := h.ne; simpa [Value.ownBlock] using this
  have hisb : isB ls i = true := by simp [isB]; omega
  have hlt' : (i : Int) < ls.length := by omega
  have hbl := heap_lt h.blk
  go_enter Try.func11, Try.ntmps11
  go_wp2_with (first | (go_at_call 27; refine (is_any (h.chg ((Chg.refl (fun _ => False) w).alloc _) (fun h => h) (fun h => h) (fun _ _ h => h)) i).mono ?_; rintro e w' ⟨rfl, rfl⟩) | (go_at_call 28; refine (delete_ok ((h.own.alloc _).alloc _) i hlt hle).mono ?_; rintro e w1 ⟨rfl, hown1, hchg1⟩; have k0 := hchg1.obj (heap_alloc_old' (heap_alloc_old' h.blk _) _) (Ne.symm hgb); have k1 := hchg1.obj (heap_alloc_old' (heap_alloc_new w _) _) (by omega); have k2 := hchg1.obj (heap_alloc_new (w.alloc _) _) (by simp; omega); rw [World.size_alloc] at k2; have z0 := cell_of k0; have z1 := cell_of k1; have z2 := cell_of k2; have y0 := frozen_of k0; have y1 := frozen_of k1))
  have hbn : b ≠ w.heap.size := by omega
  have hgn : g ≠ w.heap.size := by omega
  generalize hW : World.setCell _ _ _ = W
  have kf := heap_set_same (heap_set_same (heap_set_same (heap_set_same (heap_set_other k1 (a := ⟨b, 0, none⟩) (Ne.symm hbn) (.slice (some ⟨g, 0, none⟩) (ls.length - 1) cap)) 0 (.int .i64 x.fr)) 1 (.int .i64 x.to)) 2 (.string x.by_)) 3 (.bool x.fl)
  have kb := heap_set_other (heap_set_other (heap_set_other (heap_set_other (heap_set_same k0 0 (.slice (some ⟨g, 0, none⟩) (ls.length - 1) cap)) (a := ⟨w.heap.size, 0, none⟩) hbn (.int .i64 x.fr)) (a := ⟨w.heap.size, 1, none⟩) hbn (.int .i64 x.to)) (a := ⟨w.heap.size, 2, none⟩) hbn (.string x.by_)) (a := ⟨w.heap.size, 3, none⟩) hbn (.bool x.fl)
  have hch : Chg (fun k => k = b ∨ k = g) w W := by
    rw [← hW]
    refine Chg.setCell (Chg.setCell (Chg.setCell (Chg.setCell (Chg.setCell (Chg.trans (Chg.alloc (Chg.alloc (Chg.refl _ w) _) _) hchg1 (fun _ _ h => .inr h)) (fun _ => .inl rfl) _) ?_ _) ?_ _) ?_ _) ?_ _ <;> (intro h; simp at h)
  have kg : W.ownsRow 0 29 4 (.slice (some ⟨g, 0, none⟩) (ls.length - 1) cap) (ls.length - 1) (flat (ls.eraseIdx i)) := by
    rw [← hW]
    exact (Chg.setCell (Chg.setCell (Chg.setCell (Chg.setCell (Chg.setCell (Chg.refl (fun k => k ≠ g) w1) (fun _ => Ne.symm hgb) _) (fun _ => Ne.symm hgn) _) (fun _ => Ne.symm hgn) _) (fun _ => Ne.symm hgn) _) (fun _ => Ne.symm hgn) _).owns hown1 (fun k hk => by simp [Value.ownBlock] at hk; simp [hk])
  rw [hW] at kf kb
  have zf := cell_of kf
  refine bodyPost_ret (v := .tuple #[.agg #[.int .i64 x.fr, .int .i64 x.to, .string x.by_, .bool x.fl], .bool true]) ?_ rfl ⟨rfl, ?_⟩
  · simp [results, Try.results11, go_sem, zf]
  · have hlen : (ls.eraseIdx i).length = ls.length - 1 := by rw [List.length_eraseIdx, if_pos hlt]
    refine ⟨.slice (some ⟨g, 0, none⟩) (ls.length - 1) cap, ⟨by simpa using kb, by rw [hlen]; exact kg, by simpa [Value.ownBlock] using hgb, h.map.chg hch ?_, by omega⟩, hch.mono (fun k _ hk => ?_), fun k hk => .inl hk⟩
    · have h2 := h.ne2; have h3 := h.ne3
      simp [Value.ownBlock] at h2
      rintro (h4 | h4)
      · exact h3 h4
      · exact h2 h4.symm
    · rcases hk with rfl | rfl
      · exact .inl rfl
      · exact .inr (.inr rfl)
end
end Go.Proofs.Ytfjihepjeafpmaa
