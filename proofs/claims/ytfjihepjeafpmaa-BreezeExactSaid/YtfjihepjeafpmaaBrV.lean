/- apiaryref20 walked: Flip. -/
import Derived.Test.YtfjihepjeafpmaaBrU
namespace Go.Proofs.Ytfjihepjeafpmaa
open Go.RowKit
theorem flat_set4 : ∀ (ls : List Ld) (i : Nat) (x y : Ld), ls[i]? = some x → ((((flat ls).set (i * 4) (.int .i64 y.fr)).set (i * 4 + 1) (.int .i64 y.to)).set (i * 4 + 2) (.string y.by_)).set (i * 4 + 3) (.bool y.fl) = flat (ls.set i y)
  | [], _, _, _, h => by simp at h
  | z :: ls, 0, x, y, h => by simp at h; subst h; simp [flat, Ld.cells]
  | z :: ls, i + 1, x, y, h => by
    have ih := flat_set4 ls i x y (by simpa using h)
    simp only [flat, List.flatMap_cons, List.set_cons_succ] at ih ⊢
    rw [← ih]
    simp [Ld.cells, show (i + 1) * 4 = i * 4 + 1 + 1 + 1 + 1 from by omega, show i * 4 + 1 + 1 + 1 + 1 + 1 = i * 4 + 1 + 1 + 1 + 1 + 1 from rfl, show i * 4 + 1 + 1 + 1 + 1 + 2 = i * 4 + 2 + 1 + 1 + 1 + 1 from by omega, show i * 4 + 1 + 1 + 1 + 1 + 3 = i * 4 + 3 + 1 + 1 + 1 + 1 from by omega]
theorem flip_parts (s : ByteArray) (p : Nat) (mk : Int) (hp : p < s.size) : (s.extract 0 p ++ ⟨#[flipByte s[p] mk]⟩) ++ s.extract (p + 1) s.size = flipS s p mk := by
  apply ByteArray.ext
  apply Array.ext'
  have hg0 : s.data.toList.getD p 0 = s[p] := by
    rw [List.getD_eq_getElem?_getD]
    have : p < s.data.toList.length := by simpa using hp
    rw [List.getElem?_eq_getElem this]
    simp
    rfl
  have hpl : p < s.data.toList.length := by simpa using hp
  unfold flipS
  rw [hg0]
  simp only [ByteArray.data_append, ByteArray.data_extract, Array.toList_append, Array.toList_extract, List.extract_eq_take_drop]
  rw [List.set_eq_take_append_cons_drop, if_pos hpl]
  simp only [List.drop_zero, Nat.sub_zero, List.append_assoc, List.cons_append, List.nil_append]
  rw [List.take_of_length_le (l := List.drop (p + 1) s.data.toList) (by simp)]

section
variable {w : World} {u : Nat} {v : Value} {ls : List Ld} {A : List Bool}

set_option maxRecDepth 100000 in
set_option maxHeartbeats 1000000 in
theorem rflip_none (h : RfAt w u v ls A) (at_ pl mk : Int) (ha : isB ls at_ = false) :
    Calls Try.prog 18 #[.pointer (some ⟨u, 0, none⟩), .int .i64 at_, .int .i64 pl, .int .i64 mk] w (Rets (.int .i64 12) (fun w' => w = w')) := by
  have c0 := h.c0
  have hlen := run_len_own (P := Try.prog) Try.underlying40 h.own
  clear h
  by_cases h0 : at_ < 0
  · clear ha
    go_enter Try.func18, Try.ntmps18
    go_wp2_with fail
    go_ret
    exact ⟨rfl, rfl⟩
  · have d0 : decide (at_ < 0) = false := decide_eq_false h0
    have h1 : (ls.length : Int) ≤ at_ := by unfold isB at ha; simp at ha; omega
    clear ha
    go_enter Try.func18, Try.ntmps18
    go_wp2_with fail
    go_ret
    exact ⟨rfl, rfl⟩

set_option maxRecDepth 100000 in
set_option maxHeartbeats 1000000 in
theorem rflip_no (h : RfAt w u v ls A) (i : Nat) (x : Ld) (hi : ls[i]? = some x) (pl mk : Int) (hr : flipRes x pl mk ≠ 0) :
    Calls Try.prog 18 #[.pointer (some ⟨u, 0, none⟩), .int .i64 i, .int .i64 pl, .int .i64 mk] w (Rets (.int .i64 (flipRes x pl mk)) (RfPost w u v ls A)) := by
  obtain ⟨xa, xb, xs, xf⟩ := x
  have hlt : i < ls.length := (List.getElem?_eq_some_iff.1 hi).1
  obtain ⟨g, cap, rfl, hcap, hg⟩ := owns_some h.own (by omega)
  obtain ⟨c0, c1, c2, c3⟩ := load_cells2 h.own hi
  have u0 := h.c0
  have hlt' : (i : Int) < ls.length := by omega
  have d0 : decide ((i : Int) < 0) = false := decide_eq_false (by omega)
  have d1 : decide ((ls.length : Int) ≤ (i : Int)) = false := decide_eq_false (by omega)
  have hk := heap_alloc_new' w (.cells #[.int .i64 xa, .int .i64 xb, .string xs, .bool xf] 47)
  have k0 := (cell_of hk 0).trans rfl
  have k1 := (cell_of hk 1).trans rfl
  have k2 := (cell_of hk 2).trans rfl
  have k3 := (cell_of hk 3).trans rfl
  have PP := hid (h.post_chg ((Chg.refl (fun _ => False) w).alloc (.cells #[.int .i64 xa, .int .i64 xb, .string xs, .bool xf] 47)))
  simp only at c0 c1 c2 c3
  clear h hi hk
  unfold flipRes at hr ⊢
  simp only at hr ⊢
  cases xf with
  | true =>
    simp only [if_true] at hr ⊢
    clear hr
    go_enter Try.func18, Try.ntmps18
    go_wp2_with fail
    go_ret
    exact ⟨rfl, PP.out⟩
  | false =>
    simp only [Bool.false_eq_true, if_false] at hr ⊢
    by_cases hor : pl < 0 ∨ (xs.size : Int) ≤ pl ∨ mk < 1 ∨ 255 < mk
    · rw [if_pos hor]
      clear hr
      by_cases q1 : pl < 0
      · clear hor
        go_enter Try.func18, Try.ntmps18
        go_wp2_with fail
        go_ret
        exact ⟨rfl, PP.out⟩
      · have e1 : decide (pl < 0) = false := decide_eq_false q1
        by_cases q2 : (xs.size : Int) ≤ pl
        · clear hor
          go_enter Try.func18, Try.ntmps18
          go_wp2_with fail
          go_ret
          exact ⟨rfl, PP.out⟩
        · have e2 : decide ((xs.size : Int) ≤ pl) = false := decide_eq_false q2
          by_cases q3 : mk < 1
          · clear hor
            go_enter Try.func18, Try.ntmps18
            go_wp2_with fail
            go_ret
            exact ⟨rfl, PP.out⟩
          · have e3 : decide (mk < 1) = false := decide_eq_false q3
            have q4 : 255 < mk := by rcases hor with h | h | h | h; exact absurd h q1; exact absurd h q2; exact absurd h q3; exact h
            clear hor
            go_enter Try.func18, Try.ntmps18
            go_wp2_with fail
            go_ret
            exact ⟨rfl, PP.out⟩
    · rw [if_neg hor] at hr
      exact absurd rfl hr

set_option maxRecDepth 100000 in
set_option maxHeartbeats 2000000 in
theorem rflip_yes (h : RfAt w u v ls A) (i : Nat) (x : Ld) (hi : ls[i]? = some x) (p : Nat) (mk : Int) (hf : x.fl = false) (hp : p < x.by_.size) (hm1 : 1 ≤ mk) (hm2 : mk ≤ 255) (hs : x.by_.size ≤ 100000) :
    Calls Try.prog 18 #[.pointer (some ⟨u, 0, none⟩), .int .i64 i, .int .i64 p, .int .i64 mk] w (Rets (.int .i64 0) (RfPost w u v (ls.set i { x with by_ := flipS x.by_ p mk, fl := true }) A)) := by
  obtain ⟨xa, xb, xs, xf⟩ := x
  simp only at hf hp hs
  subst hf
  have hwr : wrap64 ((p : Int) + 1) = (p : Int) + 1 := by unfold wrap64; omega
  have hwr2 : IntKind.i64.wrap ((p : Int) + 1) = (p : Int) + 1 := by rw [IntKind.wrap_i64]; omega
  have hp0 : (0 : Int) ≤ (p : Int) + 1 := by omega
  have hlt : i < ls.length := (List.getElem?_eq_some_iff.1 hi).1
  obtain ⟨g, cap, rfl, hcap, hg⟩ := owns_some h.own (by omega)
  obtain ⟨c0, c1, c2, c3⟩ := load_cells2 h.own hi
  simp only at c0 c1 c2 c3
  have u0 := h.c0
  have hlt' : (i : Int) < ls.length := by omega
  have d0 : decide ((i : Int) < 0) = false := decide_eq_false (by omega)
  have d1 : decide ((ls.length : Int) ≤ (i : Int)) = false := decide_eq_false (by omega)
  have hk := heap_alloc_new' w (.cells #[.int .i64 xa, .int .i64 xb, .string xs, .bool false] 47)
  have k0 := (cell_of hk 0).trans rfl
  have k1 := (cell_of hk 1).trans rfl
  have k2 := (cell_of hk 2).trans rfl
  have k3 := (cell_of hk 3).trans rfl
  have e1 : decide ((p : Int) < 0) = false := decide_eq_false (by omega)
  have e2 : decide ((xs.size : Int) ≤ (p : Int)) = false := decide_eq_false (by omega)
  have e3 : decide (mk < 1) = false := decide_eq_false (by omega)
  have e4 : decide ((255 : Int) < mk) = false := decide_eq_false (by omega)
  have hpI : (p : Int) < (xs.size : Int) := by omega
  have hpI2 : (p : Int) ≤ (xs.size : Int) := by omega
  have hpI3 : (p : Int) + 1 ≤ (xs.size : Int) := by omega
  have e5 : decide (xs.size ≤ p) = false := decide_eq_false (by omega)
  have hconv : (convert 61 9 (.slice (some ⟨w.heap.size + 1, 0, none⟩) 1 1)).run Try.prog ((w.alloc (.cells #[.int .i64 xa, .int .i64 xb, .string xs, .bool false] 47)).alloc (.cells #[.int .u8 (bits .xor .u8 xs[p].toNat mk)] 5)) =
      .ok (.string ⟨#[flipByte xs[p] mk]⟩) ((w.alloc (.cells #[.int .i64 xa, .int .i64 xb, .string xs, .bool false] 47)).alloc (.cells #[.int .u8 (bits .xor .u8 xs[p].toNat mk)] 5)) := by
    refine run_convert_bytes_back (P := Try.prog) _ 61 9 5 ⟨w.heap.size + 1, 0, none⟩ 1 [flipByte xs[p] mk] Try.underlying61 Try.underlying5 Try.underlying9 (fun j hj => ?_)
    have hj0 : j = 0 := by simpa using hj
    subst hj0
    have hk1 := heap_alloc_new' (w.alloc (.cells #[.int .i64 xa, .int .i64 xb, .string xs, .bool false] 47)) (.cells #[.int .u8 (bits .xor .u8 xs[p].toNat mk)] 5)
    have hsz : (w.alloc (.cells #[.int .i64 xa, .int .i64 xb, .string xs, .bool false] 47)).heap.size = w.heap.size + 1 := by simp
    rw [hsz] at hk1
    rw [add_off, cell_of hk1]
    have := flipByte_toNat xs[p] mk
    unfold flipN at this
    simp [this]
  have hfp := flip_parts xs p mk hp
  have hX : ((w.alloc (.cells #[.int .i64 xa, .int .i64 xb, .string xs, .bool false] 47)).alloc (.cells #[.int .u8 (bits .xor .u8 xs[p].toNat mk)] 5)).heap[w.heap.size]? = some (.cells #[.int .i64 xa, .int .i64 xb, .string xs, .bool false] 47 (0, 0)) := heap_alloc_old' hk _
  have hcw : Chg (fun _ => False) w ((w.alloc (.cells #[.int .i64 xa, .int .i64 xb, .string xs, .bool false] 47)).alloc (.cells #[.int .u8 (bits .xor .u8 xs[p].toNat mk)] 5)) := ((Chg.refl _ w).alloc _).alloc _
  have H := hid h
  have HX := hid hX
  have HCW := hid hcw
  have HFP := hid hfp
  have HI := hid hi
  have hgu : g ≠ u := by have := h.ne; simpa [Value.ownBlock] using this
  have hul := heap_lt h.blk
  clear h hi hk hX hcw hfp
  go_enter Try.func18, Try.ntmps18
  go_wp2_with fail
  clear k0 k1 k2 k3 hconv c0 c1 c2 c3 u0
  generalize (w.alloc (.cells #[.int .i64 xa, .int .i64 xb, .string xs, .bool false] 47)).alloc (.cells #[.int .u8 (bits .xor .u8 xs[p].toNat mk)] 5) = W at *
  have m2 := (cell_of HX.out 2).trans rfl
  have n2 := frozen_of HX.out 2
  simp at m2
  go_region
  all_goals
    have hW2 : ((W.setCell ⟨w.heap.size, 2, none⟩ (.string (flipS xs p mk))).drew).heap[w.heap.size]? = some (.cells #[.int .i64 xa, .int .i64 xb, .string (flipS xs p mk), .bool false] 47 (0, 0)) := by
      have := heap_set_same HX.out 2 (.string (flipS xs p mk))
      exact this
    have hc2 : Chg (fun _ => False) w ((W.setCell ⟨w.heap.size, 2, none⟩ (.string (flipS xs p mk))).drew) := (HCW.out.setCell (p := ⟨w.heap.size, 2, none⟩) (fun h => absurd h (Nat.lt_irrefl _)) _).drew
    have hfp := HFP.out
    simp only [hfp] at *
    have HW2 := hid hW2
    have HC2 := hid hc2
    clear hW2 hc2 hfp m2 n2
    generalize (W.setCell ⟨w.heap.size, 2, none⟩ (.string (flipS xs p mk))).drew = W2 at *
    have m3 := (cell_of HW2.out 3).trans rfl
    have n3 := frozen_of HW2.out 3
    simp at m3
    go_wp2_with fail
    have hW3 : (W2.setCell ⟨w.heap.size, 3, none⟩ (.bool true)).heap[w.heap.size]? = some (.cells #[.int .i64 xa, .int .i64 xb, .string (flipS xs p mk), .bool true] 47 (0, 0)) := heap_set_same HW2.out 3 (.bool true)
    have hc3 : Chg (fun _ => False) w (W2.setCell ⟨w.heap.size, 3, none⟩ (.bool true)) := HC2.out.setCell (p := ⟨w.heap.size, 3, none⟩) (fun h => absurd h (Nat.lt_irrefl _)) _
    have HW3 := hid hW3
    have HC3 := hid hc3
    clear hW3 hc3 m3 n3
    generalize W2.setCell ⟨w.heap.size, 3, none⟩ (.bool true) = W3 at *
    have h3 := H.out.chg HC3.out (fun h => h) (fun _ _ h => h)
    obtain ⟨c0, c1, c2, c3⟩ := load_cells2 h3.own HI.out
    simp only at c0 c1 c2 c3
    have u0 := h3.c0
    have fz0 := h3.own.frozenAt (i * 4)
    have fz1 := h3.own.frozenAt (i * 4 + 1)
    have fz2 := h3.own.frozenAt (i * 4 + 2)
    have fz3 := h3.own.frozenAt (i * 4 + 3)
    have k0 := (cell_of HW3.out 0).trans rfl
    have k1 := (cell_of HW3.out 1).trans rfl
    have k2 := (cell_of HW3.out 2).trans rfl
    have k3 := (cell_of HW3.out 3).trans rfl
    simp at k0 k1 k2 k3
    have H3 := hid h3
    clear h3
    go_region
    all_goals
      go_wp2
      go_ret
      refine ⟨rfl, ?_⟩
      have s1 := (H3.out.own.stored (i * 4) (.int .i64 xa)).1
      have s2 := (s1.stored (i * 4 + 1) (.int .i64 xb)).1
      have s3 := (s2.stored (i * 4 + 2) (.string (flipS xs p mk))).1
      have s4 := (s3.stored (i * 4 + 3) (.bool true)).1
      rw [flat_set4 ls i ⟨xa, xb, xs, false⟩ ⟨xa, xb, flipS xs p mk, true⟩ HI.out] at s4
      have hcg : Chg (fun k => k = g) W3 ((((W3.setCell ⟨g, i * 4, none⟩ (.int .i64 xa)).setCell ⟨g, i * 4 + 1, none⟩ (.int .i64 xb)).setCell ⟨g, i * 4 + 2, none⟩ (.string (flipS xs p mk))).setCell ⟨g, i * 4 + 3, none⟩ (.bool true)) :=
        ((((Chg.refl (fun k => k = g) W3).setCell (p := ⟨g, i * 4, none⟩) (fun _ => rfl) _).setCell (p := ⟨g, i * 4 + 1, none⟩) (fun _ => rfl) _).setCell (p := ⟨g, i * 4 + 2, none⟩) (fun _ => rfl) _).setCell (p := ⟨g, i * 4 + 3, none⟩) (fun _ => rfl) _
      refine ⟨.slice (some ⟨g, 0, none⟩) ls.length cap, RfAt.chg (F := fun _ => False) ⟨hcg.obj H3.out.blk (Ne.symm hgu), by rw [List.length_set]; exact s4, H.out.ne, by rw [List.length_set]; exact H.out.le, H.out.len⟩ ((Chg.refl _ _).drew) (fun h => h) (fun _ _ h => h), ((HC3.out.mono (G := fun k => k = u ∨ (Value.slice (some ⟨g, 0, none⟩) ls.length cap).ownBlock = some k) (fun _ _ h => h.elim)).trans hcg (fun k hk e => .inr (by rw [e]; rfl))).drew, fun k hk => .inl hk⟩
end
end Go.Proofs.Ytfjihepjeafpmaa
