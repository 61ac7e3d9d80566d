/- apiarylaw08.awake walked: the document's examples. -/
import Derived.Test.YtafdcmhckpdnbaaDoorTrO
namespace Go.Proofs.YtafdcmhckpdnbaaDoor
open Go.RowKit

def aw8 : GrR := ⟨[[97], [98]], [⟨[121], [[120]], []⟩, ⟨[120], [[97]], []⟩, ⟨[122], [[98]], []⟩]⟩
def ah8 : GrR := ⟨[], [⟨[120], [[120]], []⟩]⟩
theorem aw8_check : checkR aw8 = 0 := by kernel_rfl
theorem aw8_order : ordR aw8 = [1, 0, 2] := by kernel_rfl
theorem aw8_dirty : dirtyOf aw8 [[97]] = [0, 1] := by kernel_rfl
theorem aw8_needs : needsOf aw8 [121] = [[97], [120]] := by kernel_rfl
theorem ah8_check : checkR ah8 = 23 := by kernel_rfl
theorem ah8_order : ordR ah8 = [] := by kernel_rfl

theorem ints_eq (v u : Value) (a : List Nat) (w : World) (hv : IntsAt w v a) (hu : IntsAt w u a) : Calls Tryd.prog 13 #[v, u] w (Rets (.bool true) (Chg (fun _ => False) w)) :=
  (ints_any v u a a w hv hu).mono (fun e w' ⟨B, h1, h2, h3⟩ => ⟨by rw [h1, h2.2 rfl], h3⟩)
theorem same_eq (v u : Value) (a : List Nm) (w : World) (hv : NamesAt w v a) (hu : NamesAt w u a) : Calls Tryd.prog 16 #[v, u] w (Rets (.bool true) (Chg (fun _ => False) w)) :=
  (rsameS_any v u a a w hv hu).mono (fun e w' ⟨B, h1, h2, h3⟩ => ⟨by rw [h1, h2.2 rfl], h3⟩)
theorem lit_ints (w : World) (l : List Nat) (n : Nat) (hn : n = l.length) (h : n ≤ 1000) : IntsAt (w.alloc (.cells (l.map natV).toArray 3)) (.slice (some ⟨w.heap.size, 0, none⟩) n n) l := by
  subst hn
  exact IntsAt.of_owns (owns_new w (l.map natV) 3 1 l.length (by simp) (by unfold maxLen; omega))
theorem al_chg (w : World) (o : Obj) : Chg (fun _ => False) w (w.alloc o) := (Chg.refl _ w).alloc _

set_option maxRecDepth 100000 in
set_option maxHeartbeats 4000000 in
theorem awake_any (w : World) : Calls Tryd.prog 9 #[] w (Rets (.bool true) (Chg (fun _ => False) w)) := by
  go_enter Tryd.func9, Tryd.ntmps9
  go_wp2_with fail
  refine (action_any _ _ _ _ _).mono ?_
  rintro e w1 ⟨rfl, hc1⟩
  have n0 : NamesAt (w.alloc (.cells #[.string { data := #[97] }, .string { data := #[98] }] 9)) (.slice (some ⟨w.heap.size, 0, none⟩) 2 2) [[97], [98]] := names_new w [[97], [98]] 2 rfl (by decide) (by decide)
  have n1 : NamesAt ((w.alloc (.cells #[.string { data := #[97] }, .string { data := #[98] }] 9)).alloc (.cells #[.string { data := #[120] }] 9)) (.slice (some ⟨(w.alloc (.cells #[.string { data := #[97] }, .string { data := #[98] }] 9)).heap.size, 0, none⟩) 1 1) [[120]] := names_new _ [[120]] 1 rfl (by decide) (by decide)
  rw [show (w.alloc (.cells #[.string { data := #[97] }, .string { data := #[98] }] 9)).heap.size = w.heap.size + 1 by simp] at n1
  have cw1 : Chg (fun _ => False) w w1 := ((al_chg w _).trans (al_chg _ _) (fun _ _ h => h)).trans hc1 (fun _ _ h => h)
  have N0 := hid (n0.chg ((al_chg _ _).trans hc1 (fun _ _ h => h)) (fun _ _ h => h))
  have N1 := hid (n1.chg hc1 (fun _ _ h => h))
  have C1 := hid cw1
  clear n0 n1 cw1 hc1
  go_wp2_with fail
  refine (action_any _ _ _ _ _).mono ?_
  rintro e w2 ⟨rfl, hc2⟩
  have n2 : NamesAt (w1.alloc (.cells #[.string { data := #[97] }] 9)) (.slice (some ⟨w1.heap.size, 0, none⟩) 1 1) [[97]] := names_new _ [[97]] 1 rfl (by decide) (by decide)
  have C2 := hid ((al_chg w1 (.cells #[.string { data := #[97] }] 9)).trans hc2 (fun _ _ h => h))
  have N2 := hid (n2.chg hc2 (fun _ _ h => h))
  clear n2 hc2
  go_wp2_with fail
  refine (action_any _ _ _ _ _).mono ?_
  rintro e w3 ⟨rfl, hc3⟩
  have n3 : NamesAt (w2.alloc (.cells #[.string { data := #[98] }] 9)) (.slice (some ⟨w2.heap.size, 0, none⟩) 1 1) [[98]] := names_new _ [[98]] 1 rfl (by decide) (by decide)
  have C3 := hid ((al_chg w2 (.cells #[.string { data := #[98] }] 9)).trans hc3 (fun _ _ h => h))
  have N3 := hid (n3.chg hc3 (fun _ _ h => h))
  clear n3 hc3
  go_wp2_with fail
  refine (action_any _ _ _ _ _).mono ?_
  rintro e w4 ⟨rfl, hc4⟩
  obtain ⟨ps, hps⟩ : ∃ ps : List (ActR × Value), ps = [(⟨[121], [[120]], []⟩, .slice (some ⟨w.heap.size + 1, 0, none⟩) 1 1), (⟨[120], [[97]], []⟩, .slice (some ⟨w1.heap.size, 0, none⟩) 1 1), (⟨[122], [[98]], []⟩, .slice (some ⟨w2.heap.size, 0, none⟩) 1 1)] := ⟨_, rfl⟩
  have hfl : (flatA ps).toArray = #[.string { data := #[121] }, .slice (some ⟨w.heap.size + 1, 0, none⟩) 1 1, .string { data := #[] }, .string { data := #[120] }, .slice (some ⟨w1.heap.size, 0, none⟩) 1 1, .string { data := #[] }, .string { data := #[122] }, .slice (some ⟨w2.heap.size, 0, none⟩) 1 1, .string { data := #[] }] := by rw [hps]; rfl
  rw [← hfl] at hc4
  have gb4 := hc4.obj (heap_alloc_old' (heap_alloc_new' (w3.alloc (.cells (flatA ps).toArray 41)) (.cells #[.slice (some ⟨w.heap.size, 0, none⟩) 2 2, .slice (some ⟨w3.heap.size, 0, none⟩) 3 3] 25)) (.cells #[.string { data := #[120] }] 9)) (fun h => h)
  rw [show (w3.alloc (.cells (flatA ps).toArray 41)).heap.size = w3.heap.size + 1 by simp] at gb4
  have hc34 : Chg (fun _ => False) w3 w4 := (((al_chg w3 _).trans (al_chg _ _) (fun _ _ h => h)).trans (al_chg _ _) (fun _ _ h => h)).trans hc4 (fun _ _ h => h)
  have ow : (w3.alloc (.cells (flatA ps).toArray 41)).ownsRow 0 41 3 (.slice (some ⟨w3.heap.size, 0, none⟩) 3 3) 3 (flatA ps) := owns_new w3 (flatA ps) 41 3 3 (by rw [hps]; rfl) (by unfold maxLen; omega)
  have ow4 := hc4.owns ((al_chg (w3.alloc (.cells (flatA ps).toArray 41)) (.cells #[.slice (some ⟨w.heap.size, 0, none⟩) 2 2, .slice (some ⟨w3.heap.size, 0, none⟩) 3 3] 25)).trans (al_chg _ (.cells #[.string { data := #[120] }] 9)) (fun _ _ h => h) |>.owns ow (fun _ _ h => h)) (fun _ _ h => h)
  have nx : NamesAt (((w3.alloc (.cells (flatA ps).toArray 41)).alloc (.cells #[.slice (some ⟨w.heap.size, 0, none⟩) 2 2, .slice (some ⟨w3.heap.size, 0, none⟩) 3 3] 25)).alloc (.cells #[.string { data := #[120] }] 9)) (.slice (some ⟨((w3.alloc (.cells (flatA ps).toArray 41)).alloc (.cells #[.slice (some ⟨w.heap.size, 0, none⟩) 2 2, .slice (some ⟨w3.heap.size, 0, none⟩) 3 3] 25)).heap.size, 0, none⟩) 1 1) [[120]] := names_new _ [[120]] 1 rfl (by decide) (by decide)
  rw [show ((w3.alloc (.cells (flatA ps).toArray 41)).alloc (.cells #[.slice (some ⟨w.heap.size, 0, none⟩) 2 2, .slice (some ⟨w3.heap.size, 0, none⟩) 3 3] 25)).heap.size = w3.heap.size + 1 + 1 by simp] at nx
  have nx4 := nx.chg hc4 (fun _ _ h => h)
  have hgr : GrAt w4 (.agg #[.slice (some ⟨w.heap.size, 0, none⟩) 2 2, .slice (some ⟨w3.heap.size, 0, none⟩) 3 3]) aw8 := by
    have hpl : ps.length = 3 := by rw [hps]; rfl
    have hact := ActsAt.of_owns (w := w4) (v := .slice (some ⟨w3.heap.size, 0, none⟩) 3 3) (ps := ps) (by rw [hpl]; exact ow4) (by rw [hpl]; unfold maxLen; omega) (by
      intro p hp
      rw [hps] at hp
      simp only [List.mem_cons, List.not_mem_nil, or_false] at hp
      rcases hp with rfl | rfl | rfl
      · exact N1.out.chg ((C2.out.trans C3.out (fun _ _ h => h)).trans hc34 (fun _ _ h => h)) (fun _ _ h => h)
      · exact N2.out.chg (C3.out.trans hc34 (fun _ _ h => h)) (fun _ _ h => h)
      · exact N3.out.chg hc34 (fun _ _ h => h)) (by
      intro p hp
      rw [hps] at hp
      simp only [List.mem_cons, List.not_mem_nil, or_false] at hp
      rcases hp with rfl | rfl | rfl <;> exact ⟨(by show (1 : Nat) ≤ 9223372036854775807; decide), Nat.zero_le _⟩)
    have he : ps.map Prod.fst = aw8.acts := by rw [hps]; rfl
    rw [he] at hact
    exact ⟨_, _, _, rfl, N0.out.chg (((C2.out.trans C3.out (fun _ _ h => h)).trans hc34 (fun _ _ h => h))) (fun _ _ h => h), hact⟩
  have hgh : GrAt (w4.alloc (.cells #[.string { data := #[120] }, .slice (some ⟨w3.heap.size + 1 + 1, 0, none⟩) 1 1, .string { data := #[] }] 41)) (.agg #[.slice none 0 0, .slice (some ⟨w4.heap.size, 0, none⟩) 1 1]) ah8 := by
    have hact := ActsAt.of_owns (w := w4.alloc (.cells (flatA [((⟨[120], [[120]], []⟩ : ActR), .slice (some ⟨w3.heap.size + 1 + 1, 0, none⟩) 1 1)]).toArray 41)) (v := .slice (some ⟨w4.heap.size, 0, none⟩) 1 1) (ps := [((⟨[120], [[120]], []⟩ : ActR), .slice (some ⟨w3.heap.size + 1 + 1, 0, none⟩) 1 1)]) (owns_new w4 _ 41 3 1 rfl (by unfold maxLen; omega)) (by show (1 : Nat) ≤ 9223372036854775807; decide) (by
      intro p hp
      simp only [List.mem_cons, List.not_mem_nil, or_false] at hp
      subst hp
      exact nx4.chg (al_chg _ _) (fun _ _ h => h)) (by
      intro p hp
      simp only [List.mem_cons, List.not_mem_nil, or_false] at hp
      subst hp
      exact ⟨(by show (1 : Nat) ≤ 9223372036854775807; decide), Nat.zero_le _⟩)
    exact ⟨_, _, _, rfl, ⟨.inl ⟨rfl, rfl⟩, Nat.zero_le _, by simp [ah8]⟩, hact⟩
  have k40 := cell_of gb4 0
  have k41 := cell_of gb4 1
  simp at k40 k41
  obtain ⟨W5, hW5⟩ : ∃ W5, W5 = (w4.alloc (.cells #[.string { data := #[120] }, .slice (some ⟨w3.heap.size + 1 + 1, 0, none⟩) 1 1, .string { data := #[] }] 41)).alloc (.cells #[.slice none 0 0, .slice (some ⟨w4.heap.size, 0, none⟩) 1 1] 25) := ⟨_, rfl⟩
  have hc45 : Chg (fun _ => False) w4 W5 := by rw [hW5]; exact (al_chg _ _).trans (al_chg _ _) (fun _ _ h => h)
  have gb5 := hc45.obj gb4 (fun h => h)
  have hb5 : W5.heap[w4.heap.size + 1]? = some (.cells #[.slice none 0 0, .slice (some ⟨w4.heap.size, 0, none⟩) 1 1] 25 (0, 0)) := by
    have := heap_alloc_new' (w4.alloc (.cells #[.string { data := #[120] }, .slice (some ⟨w3.heap.size + 1 + 1, 0, none⟩) 1 1, .string { data := #[] }] 41)) (.cells #[.slice none 0 0, .slice (some ⟨w4.heap.size, 0, none⟩) 1 1] 25)
    rw [hW5]; simpa using this
  have hg5 := hgr.chg hc45 (fun _ _ h => h)
  have hh5 : GrAt W5 (.agg #[.slice none 0 0, .slice (some ⟨w4.heap.size, 0, none⟩) 1 1]) ah8 := by rw [hW5]; exact hgh.chg (al_chg _ _) (fun _ _ h => h)
  have hcw5 : Chg (fun _ => False) w W5 := (((C1.out.trans C2.out (fun _ _ h => h)).trans C3.out (fun _ _ h => h)).trans hc34 (fun _ _ h => h)).trans hc45 (fun _ _ h => h)
  have j50 := cell_of gb5 0
  have j51 := cell_of gb5 1
  rw [hW5] at j50 j51
  simp at j50 j51
  have HG5 := hid hg5
  have HH5 := hid hh5
  have HCW := hid hcw5
  have HGB := hid gb5
  have HHB := hid hb5
  have HW5 := hid hW5
  clear hps hfl hc4 gb4 hc34 ow ow4 nx nx4 hgr hgh hc45 gb5 hb5 hg5 hh5 hcw5 hW5
  go_wp2_with fail
  rw [← HW5.out]
  clear HW5 j50 j51 k40 k41 N0 N1 N2 N3 C1 C2 C3
  refine (tcheck_any aw8 _ _ HG5.out).mono ?_
  rintro e w6 ⟨rfl, hc6⟩
  rw [aw8_check]
  have C6 := hid hc6
  have a0 := cell_of (hc6.obj HGB.out (fun h => h)) 0
  have a1 := cell_of (hc6.obj HGB.out (fun h => h)) 1
  simp at a0 a1
  clear hc6
  go_wp2_with fail
  refine (torder_any aw8 _ _ (HG5.out.chg C6.out (fun _ _ h => h))).mono ?_
  rintro e w7 ⟨hc7, v7, rfl, ho7⟩
  rw [aw8_order] at ho7
  have I7 := hid ((IntsAt.of_owns (l := [1, 0, 2]) ho7).chg (al_chg w7 (.cells #[.int .i64 1, .int .i64 0, .int .i64 2] 3)) (fun _ _ h => h))
  have J7 : Hid (IntsAt (w7.alloc (.cells #[.int .i64 1, .int .i64 0, .int .i64 2] 3)) (.slice (some ⟨w7.heap.size, 0, none⟩) 3 3) [1, 0, 2]) := hid (lit_ints w7 [1, 0, 2] 3 rfl (by decide))
  have C7 := hid ((C6.out.trans hc7 (fun _ _ h => h)).trans (al_chg w7 (.cells #[.int .i64 1, .int .i64 0, .int .i64 2] 3)) (fun _ _ h => h))
  clear hc7 ho7 C6 a0 a1
  go_wp2_with fail
  refine (ints_eq _ _ [1, 0, 2] _ I7.out J7.out).mono ?_
  rintro e w8 ⟨rfl, hc8⟩
  have C8 := hid (C7.out.trans hc8 (fun _ _ h => h))
  clear hc8 C7 I7 J7
  have a0 := cell_of (C8.out.obj HGB.out (fun h => h)) 0
  have a1 := cell_of (C8.out.obj HGB.out (fun h => h)) 1
  simp at a0 a1
  go_wp2_with fail
  have N8 : Hid (NamesAt (w8.alloc (.cells #[.string { data := #[97] }] 9)) (.slice (some ⟨w8.heap.size, 0, none⟩) 1 1) [[97]]) := hid (names_new w8 [[97]] 1 rfl (by decide) (by decide))
  refine (tdirty_any aw8 [[97]] _ _ _ (HG5.out.chg (C8.out.trans (al_chg _ _) (fun _ _ h => h)) (fun _ _ h => h)) N8.out).mono ?_
  rintro e w9 ⟨hc9, v9, rfl, ho9⟩
  rw [aw8_dirty] at ho9
  have I9 := hid ((IntsAt.of_owns (l := [0, 1]) ho9).chg (al_chg w9 (.cells #[.int .i64 0, .int .i64 1] 3)) (fun _ _ h => h))
  have J9 : Hid (IntsAt (w9.alloc (.cells #[.int .i64 0, .int .i64 1] 3)) (.slice (some ⟨w9.heap.size, 0, none⟩) 2 2) [0, 1]) := hid (lit_ints w9 [0, 1] 2 rfl (by decide))
  have C9 := hid (((C8.out.trans (al_chg _ _) (fun _ _ h => h)).trans hc9 (fun _ _ h => h)).trans (al_chg w9 (.cells #[.int .i64 0, .int .i64 1] 3)) (fun _ _ h => h))
  clear hc9 ho9 C8 a0 a1 N8
  go_wp2_with fail
  refine (ints_eq _ _ [0, 1] _ I9.out J9.out).mono ?_
  rintro e w10 ⟨rfl, hc10⟩
  have C10 := hid (C9.out.trans hc10 (fun _ _ h => h))
  clear hc10 C9 I9 J9
  have a0 := cell_of (C10.out.obj HGB.out (fun h => h)) 0
  have a1 := cell_of (C10.out.obj HGB.out (fun h => h)) 1
  simp at a0 a1
  go_wp2_with fail
  refine (tneeds_any aw8 [121] _ _ (HG5.out.chg C10.out (fun _ _ h => h))).mono ?_
  rintro e w11 ⟨hc11, v11, rfl, ho11⟩
  rw [aw8_needs] at ho11
  have I11 := hid ((NamesAt.of_owns (ss := [[97], [120]]) ho11 (by show (2 : Nat) ≤ 9223372036854775807; decide) (by unfold maxLen; decide)).chg (al_chg w11 (.cells #[.string { data := #[97] }, .string { data := #[120] }] 9)) (fun _ _ h => h))
  have J11 : Hid (NamesAt (w11.alloc (.cells #[.string { data := #[97] }, .string { data := #[120] }] 9)) (.slice (some ⟨w11.heap.size, 0, none⟩) 2 2) [[97], [120]]) := hid (names_new w11 [[97], [120]] 2 rfl (by decide) (by decide))
  have C11 := hid ((C10.out.trans hc11 (fun _ _ h => h)).trans (al_chg w11 (.cells #[.string { data := #[97] }, .string { data := #[120] }] 9)) (fun _ _ h => h))
  clear hc11 ho11 C10 a0 a1
  go_wp2_with fail
  refine (same_eq _ _ [[97], [120]] _ I11.out J11.out).mono ?_
  rintro e w12 ⟨rfl, hc12⟩
  have C12 := hid (C11.out.trans hc12 (fun _ _ h => h))
  clear hc12 C11 I11 J11
  have a0 := cell_of (C12.out.obj HHB.out (fun h => h)) 0
  have a1 := cell_of (C12.out.obj HHB.out (fun h => h)) 1
  simp at a0 a1
  go_wp2_with fail
  refine (tcheck_any ah8 _ _ (HH5.out.chg C12.out (fun _ _ h => h))).mono ?_
  rintro e w13 ⟨rfl, hc13⟩
  rw [ah8_check]
  have C13 := hid (C12.out.trans hc13 (fun _ _ h => h))
  clear hc13 C12 a0 a1
  have a0 := cell_of (C13.out.obj HHB.out (fun h => h)) 0
  have a1 := cell_of (C13.out.obj HHB.out (fun h => h)) 1
  simp at a0 a1
  go_wp2_with fail
  refine (torder_any ah8 _ _ (HH5.out.chg C13.out (fun _ _ h => h))).mono ?_
  rintro e w14 ⟨hc14, v14, rfl, ho14⟩
  rw [ah8_order] at ho14
  obtain ⟨o14, c14, rfl⟩ := owns_form ho14
  clear ho14
  go_wp2_with fail
  go_ret
  exact ⟨rfl, HCW.out.trans (C13.out.trans hc14 (fun _ _ h => h)) (fun _ _ h => h)⟩
end Go.Proofs.YtafdcmhckpdnbaaDoor
