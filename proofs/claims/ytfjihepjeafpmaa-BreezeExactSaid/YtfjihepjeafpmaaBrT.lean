/- apiaryref20 walked: Take, Copy. -/
import Derived.Test.YtfjihepjeafpmaaBrS
namespace Go.Proofs.Ytfjihepjeafpmaa
open Go.RowKit
theorem owns_new (w : World) (xs : List Value) (e : TypeId) (size n : Nat) (h : xs.length = n * size) (hn : n ≤ maxLen) : (w.alloc (.cells xs.toArray e)).ownsRow 0 e size (.slice (some ⟨w.heap.size, 0, none⟩) n n) n xs :=
  ⟨h, .inr ⟨w.heap.size, n, xs.toArray, rfl, Nat.zero_le _, heap_alloc_new w _, Nat.le_refl _, hn, by simpa using h, by simp [← h]⟩⟩
theorem own_form {w : World} {e : TypeId} {size n : Nat} {v : Value} {xs : List Value} (h : w.ownsRow 0 e size v n xs) : ∃ oa cap, v = .slice oa n cap := by
  rcases h.2 with ⟨rfl, rfl⟩ | ⟨g, cap, cur, rfl, _⟩
  · exact ⟨none, 0, rfl⟩
  · exact ⟨_, cap, rfl⟩
theorem RfAt.setV_at {w w' : World} {u : Nat} {v v' : Value} {ls ls' : List Ld} {A : List Bool} (h : RfAt w u v ls A) (hown : w'.ownsRow 0 47 4 v' ls'.length (flat ls')) (hch : Chg (fun k => v.ownBlock = some k) w w') (hg : ∀ k, v'.ownBlock = some k → v.ownBlock = some k ∨ w.heap.size ≤ k) (hl : ls'.length ≤ 200) :
    RfAt (w'.setCell ⟨u, 0, none⟩ v') u v' ls' A ∧ Chg (fun k => k = u ∨ v.ownBlock = some k) w (w'.setCell ⟨u, 0, none⟩ v') ∧ (∀ k, v'.ownBlock = some k → v.ownBlock = some k ∨ w.heap.size ≤ k) := by
  have hblk := hch.obj h.blk h.ne
  have hlt := heap_lt h.blk
  have hu : v'.ownBlock ≠ some u := fun e => by
    rcases hg u e with h1 | h1
    · exact h.ne h1
    · omega
  have hc : Chg (fun k => k = u) w' (w'.setCell ⟨u, 0, none⟩ v') := (Chg.refl (fun k => k = u) w').setCell (fun _ => rfl) _
  refine ⟨⟨?_, hc.owns hown (fun k hk e => hu (by rw [hk, e])), hu, hl, h.len⟩, (hch.mono (fun _ _ h => .inr h)).trans hc (fun _ _ h => .inl h), hg⟩
  rw [heap_set_same hblk 0 v']
  simp
theorem load_cells2 {w : World} {g cap : Nat} {ls : List Ld} (hown : w.ownsRow 0 47 4 (.slice (some ⟨g, 0, none⟩) ls.length cap) ls.length (flat ls)) {i : Nat} {x : Ld} (hi : ls[i]? = some x) :
    w.cell? ⟨g, i * 4, none⟩ = some (.int .i64 x.fr) ∧ w.cell? ⟨g, i * 4 + 1, none⟩ = some (.int .i64 x.to) ∧ w.cell? ⟨g, i * 4 + 2, none⟩ = some (.string x.by_) ∧ w.cell? ⟨g, i * 4 + 3, none⟩ = some (.bool x.fl) := by
  have hlt : i < ls.length := (List.getElem?_eq_some_iff.1 hi).1
  have h := fun j (hj : j < 4) => (hown.cellAt (i * 4 + j) (by omega)).trans (flat_get ls i j hj)
  simp only [hi, Option.bind_some] at h
  exact ⟨h 0 (by omega), h 1 (by omega), h 2 (by omega), h 3 (by omega)⟩
theorem add_off (g o j : Nat) : (⟨g, o, none⟩ : Addr).add j = ⟨g, o + j, none⟩ := by unfold Addr.add; split <;> simp_all
theorem news_take {w : World} {g cap : Nat} {ls : List Ld} (hown : w.ownsRow 0 47 4 (.slice (some ⟨g, 0, none⟩) ls.length cap) ls.length (flat ls)) (i : Nat) :
    ∀ j u, (flat (ls.take i))[j]? = some u → w.cell? ((⟨g, 0, none⟩ : Addr).add j) = some u := by
  intro j u hj
  rw [add_off, Nat.zero_add]
  rw [← flat_take, List.getElem?_take] at hj
  split at hj
  · have hlt := (List.getElem?_eq_some_iff.1 hj).1
    rw [flat_length] at hlt
    rw [hown.cellAt j hlt, hj]
  · cases hj
theorem news_drop {w : World} {g cap : Nat} {ls : List Ld} (hown : w.ownsRow 0 47 4 (.slice (some ⟨g, 0, none⟩) ls.length cap) ls.length (flat ls)) (i : Nat) (ad : Addr) (had : i < ls.length → ad = ⟨g, i * 4, none⟩) :
    ∀ j u, (flat (ls.drop i))[j]? = some u → w.cell? (ad.add j) = some u := by
  intro j u hj
  rw [← flat_drop, List.getElem?_drop] at hj
  have hlt := (List.getElem?_eq_some_iff.1 hj).1
  rw [flat_length] at hlt
  rw [had (by omega), add_off, hown.cellAt _ hlt, hj]
theorem res4 {W : World} {R : Nat} {T : TypeId} {a b c d : Value} (h : W.heap[R]? = some (.cells #[a, b, c, d] T (0, 0))) (p q r s : Value) :
    ((((W.setCell ⟨R, 0, none⟩ p).setCell ⟨R, 1, none⟩ q).setCell ⟨R, 2, none⟩ r).setCell ⟨R, 3, none⟩ s).heap[R]? = some (.cells #[p, q, r, s] T (0, 0)) := by
  have y0 := heap_set_same h 0 p
  have y1 := heap_set_same y0 1 q
  have y2 := heap_set_same y1 2 r
  have y3 := heap_set_same y2 3 s
  simpa using y3

section
variable {w : World} {u : Nat} {v : Value} {ls : List Ld} {A : List Bool}

set_option maxRecDepth 100000 in
set_option maxHeartbeats 1000000 in
theorem rtake_no (h : RfAt w u v ls A) (at_ : Int) (ha : isB ls at_ = false) :
    Calls Try.prog 16 #[.pointer (some ⟨u, 0, none⟩), .int .i64 at_] w
      (Rets (.tuple #[.agg #[.int .i64 0, .int .i64 0, .string ByteArray.empty, .bool false], .bool false]) (RfPost w u v ls A)) := by
  have hc := (Chg.refl (fun _ => False) w).alloc (.cells #[.int .i64 0, .int .i64 0, .string { data := #[] }, .bool false] 47)
  have c0 := (h.chg hc (fun h => h) (fun _ _ h => h)).c0
  have hlen := run_len_own (P := Try.prog) Try.underlying40 h.own
  have hp := hid (h.post_chg hc)
  clear h hc
  by_cases h0 : at_ < 0
  · clear ha
    go_enter Try.func16, Try.ntmps16
    go_wp2_with fail
    exact bodyPost_ret (v := .tuple #[.agg #[.int .i64 0, .int .i64 0, .string ByteArray.empty, .bool false], .bool false]) (by simp [results, Try.results16, go_sem]; rfl) rfl ⟨rfl, hp.out⟩
  · have h1 : (ls.length : Int) ≤ at_ := by unfold isB at ha; simp at ha; omega
    have d0 : decide (at_ < 0) = false := decide_eq_false h0
    clear ha
    go_enter Try.func16, Try.ntmps16
    go_wp2_with fail
    exact bodyPost_ret (v := .tuple #[.agg #[.int .i64 0, .int .i64 0, .string ByteArray.empty, .bool false], .bool false]) (by simp [results, Try.results16, go_sem]; rfl) rfl ⟨rfl, hp.out⟩

set_option maxRecDepth 100000 in
set_option maxHeartbeats 1000000 in
theorem rtake_yes (h : RfAt w u v ls A) (i : Nat) (x : Ld) (hi : ls[i]? = some x) :
    Calls Try.prog 16 #[.pointer (some ⟨u, 0, none⟩), .int .i64 i] w
      (Rets (.tuple #[.agg #[.int .i64 x.fr, .int .i64 x.to, .string x.by_, .bool x.fl], .bool true]) (RfPost w u v (ls.eraseIdx i) A)) := by
  have hlt : i < ls.length := (List.getElem?_eq_some_iff.1 hi).1
  obtain ⟨g, cap, rfl, hcap, hg⟩ := owns_some h.own (by omega)
  have hle := h.le
  obtain ⟨Z, hZ⟩ : ∃ Z : Obj, Z = .cells #[.int .i64 0, .int .i64 0, .string { data := #[] }, .bool false] 47 := ⟨_, rfl⟩
  obtain ⟨X, hX⟩ : ∃ X : Obj, X = .cells #[.int .i64 x.fr, .int .i64 x.to, .string x.by_, .bool x.fl] 47 := ⟨_, rfl⟩
  have hcw : Chg (fun _ => False) w (((w.alloc Z).alloc X).alloc (.cells #[] 47)) := (((Chg.refl _ w).alloc _).alloc _).alloc _
  have hc1 : Chg (fun _ => False) w (w.alloc Z) := (Chg.refl _ w).alloc _
  have hc2 : Chg (fun _ => False) w ((w.alloc Z).alloc X) := ((Chg.refl _ w).alloc _).alloc _
  have h1 := h.chg hc1 (fun h => h) (fun _ _ h => h)
  have h2 := h.chg hc2 (fun h => h) (fun _ _ h => h)
  have h3 := h.chg hcw (fun h => h) (fun _ _ h => h)
  obtain ⟨c0, c1, c2, c3⟩ := load_cells2 h1.own hi
  have u1 := h1.c0
  have u2 := h2.c0
  have u3 := h3.c0
  have hE : ((w.alloc Z).alloc X).heap.size = w.heap.size + 1 + 1 := by simp
  have hownE : (((w.alloc Z).alloc X).alloc (.cells #[] 47)).ownsRow 0 47 4 (.slice (some ⟨w.heap.size + 1 + 1, 0, none⟩) 0 0) 0 [] := by
    have := owns_new ((w.alloc Z).alloc X) [] 47 4 0 rfl (by unfold maxLen; omega)
    rw [hE] at this
    exact this
  have hl1 : (flat (ls.take i)).length = i * 4 := by rw [flat_length, List.length_take, Nat.min_eq_left (Nat.le_of_lt hlt)]
  have hn1 := news_take h3.own i
  have hl2 : (flat (ls.drop (i + 1))).length = (ls.length - (i + 1)) * 4 := by rw [flat_length, List.length_drop]
  obtain ⟨ad, had, hads⟩ : ∃ ad : Addr, (if cap = i + 1 then some (⟨g, 0, none⟩ : Addr) else some ⟨g, (i + 1) * 4, none⟩) = some ad ∧ (i + 1 < ls.length → ad = ⟨g, (i + 1) * 4, none⟩) := by
    by_cases hcc : cap = i + 1
    · exact ⟨_, by rw [if_pos hcc], fun h => by omega⟩
    · exact ⟨_, by rw [if_neg hcc], fun _ => rfl⟩
  have kX : (((w.alloc Z).alloc X).alloc (.cells #[] 47)).heap[w.heap.size + 1]? = some (.cells #[.int .i64 x.fr, .int .i64 x.to, .string x.by_, .bool x.fl] 47 (0, 0)) := by
    have := heap_alloc_old' (heap_alloc_new' (w.alloc Z) X) (.cells #[] 47)
    rw [hX] at this ⊢
    simpa using this
  have kZ : (((w.alloc Z).alloc X).alloc (.cells #[] 47)).heap[w.heap.size]? = some (.cells #[.int .i64 0, .int .i64 0, .string { data := #[] }, .bool false] 47 (0, 0)) := by
    have := heap_alloc_old' (heap_alloc_old' (heap_alloc_new' w Z) X) (.cells #[] 47)
    rw [hZ] at this ⊢
    exact this
  have hie : (i : Int) < (ls.length : Int) := by omega
  have hcap' : (ls.length : Int) ≤ (cap : Int) := by omega
  have hic : (i : Int) ≤ (cap : Int) := by omega
  have hi1 : (i : Int) + 1 ≤ (ls.length : Int) := by omega
  have hi0 : (0 : Int) ≤ (i : Int) + 1 := by omega
  have hi00 : decide ((i : Int) < 0) = false := decide_eq_false (by omega)
  have hu : u < w.heap.size := heap_lt h.blk
  have hWs : (((w.alloc Z).alloc X).alloc (.cells #[] 47)).heap.size = w.heap.size + 3 := by simp
  have H := hid h
  have H3 := hid h3
  have KX := hid kX
  have KZ := hid kZ
  have HADS := hid hads
  have HCW := hid hcw
  have HE := hid hWs
  have HU := hid hu
  subst hZ hX
  clear h h1 h2 h3 kX kZ hads hcw hc1 hc2 hE hWs hu hi
  go_enter Try.func16, Try.ntmps16
  go_wp2_with (first | (at_builtin; (refine wpList_append_lies rfl _ _ 40 rfl elLoad2 hownE rfl ⟨g, 0, none⟩ i cap (flat (ls.take i)) rfl hl1 hn1 (flat_all _) (by unfold maxLen; omega) (by omega) ?_); clear hownE; intro v1 w1 hown1 hch1 hg1; have hgk : ∀ k, v1.ownBlock = some k → w.heap.size + 2 ≤ k := (fun k hk => by rcases hg1 k hk with e1 | e1; (simp [Value.ownBlock] at e1; omega); (have e2 := Nat.le_trans (Nat.le_of_eq HE.out.symm) e1; omega)); have hcw1 := HCW.out.trans hch1 (fun k hk e => by simp [Value.ownBlock] at e; omega); have h4 := H.out.chg hcw1 (fun h => h) (fun _ _ h => h); have u4 := h4.c0; have f4 := h4.fz 0; have H4 := hid h4; have HC1 := hid hcw1; have HH1 := hid hch1; have HG1 := hid hgk; have KX1 := hid (hch1.obj KX.out (fun e => by simp [Value.ownBlock] at e <;> omega)); have KZ1 := hid (hch1.obj KZ.out (fun e => by simp [Value.ownBlock] at e <;> omega)); clear hch1 hg1 hcw1 h4 hgk) | (at_builtin; go_loud (refine wpList_append_lies rfl _ _ 40 rfl elLoad2 hown1 rfl ad (ls.length - (i + 1)) (cap - (i + 1)) (flat (ls.drop (i + 1))) rfl hl2 (news_drop H4.out.own (i + 1) ad HADS.out) (flat_all _) (by unfold maxLen; omega) (by omega) ?_); clear hown1; intro v2 w2 hown2 hch2 hg2; obtain ⟨oa2, ca2, rfl⟩ := own_form hown2; have hun : ¬ v1.ownBlock = some u := (fun e => by have e1 := HG1.out _ e; have e2 := HU.out; omega); have hk5 := hch2.obj H4.out.blk hun; have u5 := (cell_of hk5 0).trans rfl; have f5 := frozen_of hk5 0; have KX2 := hid (hch2.obj KX1.out (fun e => by have e1 := HG1.out _ e; omega)); have KZ2 := hid (hch2.obj KZ1.out (fun e => by have e1 := HG1.out _ e; omega)); have HC2 := hid (HC1.out.trans hch2 (fun k hk e => by have e1 := HG1.out _ e; omega)); have HO2 := hid hown2; have HG2 := hid hg2; have q0 := (cell_of KX2.out 0).trans rfl; have q1 := (cell_of KX2.out 1).trans rfl; have q2 := (cell_of KX2.out 2).trans rfl; have q3 := (cell_of KX2.out 3).trans rfl; have z0 := (cell_of KZ2.out 0).trans rfl; have z1 := (cell_of KZ2.out 1).trans rfl; have z2 := (cell_of KZ2.out 2).trans rfl; have z3 := (cell_of KZ2.out 3).trans rfl; have g0 := frozen_of KZ2.out 0; have g1 := frozen_of KZ2.out 1; have g2 := frozen_of KZ2.out 2; have g3 := frozen_of KZ2.out 3; have hnA : ¬ u = w.heap.size := (by have e2 := HU.out; omega); have hnB : ¬ u = w.heap.size + 1 := (by have e2 := HU.out; omega); clear hown2 hch2 hg2 hk5 hun))
  have hL : 0 + i + (ls.length - (i + 1)) = (ls.eraseIdx i).length := by rw [List.length_eraseIdx, if_pos hlt]; omega
  have hown : w2.ownsRow 0 47 4 (.slice oa2 (i + (ls.length - (i + 1))) ca2) (ls.eraseIdx i).length (flat (ls.eraseIdx i)) := by
    have := HO2.out
    rw [List.nil_append, ← flat_append, ← List.eraseIdx_eq_take_drop_succ, hL] at this
    rw [show i + (ls.length - (i + 1)) = (ls.eraseIdx i).length by omega]
    exact this
  have hgk : ∀ k, (Value.slice oa2 (i + (ls.length - (i + 1))) ca2).ownBlock = some k → w.heap.size + 2 ≤ k := fun k hk => by
    have hk' : (Value.slice oa2 (0 + i + (ls.length - (i + 1))) ca2).ownBlock = some k := by rw [show 0 + i + (ls.length - (i + 1)) = i + (ls.length - (i + 1)) by omega]; exact hk
    rcases HG2.out k hk' with e1 | e1
    · exact HG1.out k e1
    · have := (HC1.out).size
      have := heap_lt KX1.out
      omega
  obtain ⟨p1, p2, p3⟩ := H.out.setV_at (v' := .slice oa2 (i + (ls.length - (i + 1))) ca2) (ls' := ls.eraseIdx i) hown (HC2.out.mono (fun _ _ h => h.elim)) (fun k hk => .inr (by have := hgk k hk; omega)) (by have := hL; omega)
  have hcR : Chg (fun k => k = w.heap.size) (w2.setCell ⟨u, 0, none⟩ (.slice oa2 (i + (ls.length - (i + 1))) ca2)) (((((w2.setCell ⟨u, 0, none⟩ (.slice oa2 (i + (ls.length - (i + 1))) ca2)).setCell ⟨w.heap.size, 0, none⟩ (.int .i64 x.fr)).setCell ⟨w.heap.size, 1, none⟩ (.int .i64 x.to)).setCell ⟨w.heap.size, 2, none⟩ (.string x.by_)).setCell ⟨w.heap.size, 3, none⟩ (.bool x.fl)) :=
    ((((Chg.refl (fun k => k = w.heap.size) _).setCell (p := ⟨w.heap.size, 0, none⟩) (fun _ => rfl) _).setCell (p := ⟨w.heap.size, 1, none⟩) (fun _ => rfl) _).setCell (p := ⟨w.heap.size, 2, none⟩) (fun _ => rfl) _).setCell (p := ⟨w.heap.size, 3, none⟩) (fun _ => rfl) _
  have hkR := res4 (((Chg.refl (fun k => k = u) w2).setCell (p := ⟨u, 0, none⟩) (fun _ => rfl) (.slice oa2 (i + (ls.length - (i + 1))) ca2)).obj KZ2.out (fun e => hnA e.symm)) (.int .i64 x.fr) (.int .i64 x.to) (.string x.by_) (.bool x.fl)
  have y0 := (cell_of hkR 0).trans rfl
  have y1 := (cell_of hkR 1).trans rfl
  have y2 := (cell_of hkR 2).trans rfl
  have y3 := (cell_of hkR 3).trans rfl
  have PP : Hid (RfPost w u (.slice (some ⟨g, 0, none⟩) ls.length cap) (ls.eraseIdx i) A (((((w2.setCell ⟨u, 0, none⟩ (.slice oa2 (i + (ls.length - (i + 1))) ca2)).setCell ⟨w.heap.size, 0, none⟩ (.int .i64 x.fr)).setCell ⟨w.heap.size, 1, none⟩ (.int .i64 x.to)).setCell ⟨w.heap.size, 2, none⟩ (.string x.by_)).setCell ⟨w.heap.size, 3, none⟩ (.bool x.fl))) :=
    ⟨_, p1.chg hcR hnA (fun k hk e => by have := hgk k hk; omega), p2.trans hcR (fun k hk e => by omega), p3⟩
  exact bodyPost_ret (v := .tuple #[.agg #[.int .i64 x.fr, .int .i64 x.to, .string x.by_, .bool x.fl], .bool true]) (by simp [results, Try.results16, go_sem, y0, y1, y2, y3]) rfl ⟨rfl, PP.out⟩
end
end Go.Proofs.Ytfjihepjeafpmaa
