/- recipe.isAction, isGraph walked. -/
import Derived.Test.YtafdcmhckpdnbaaDoorReD
namespace Go.Proofs.YtafdcmhckpdnbaaDoor
open Go.RowKit

/-- An action as a value. -/
def actV (a : ActR) (iv : Value) : Value := .agg #[.string (bs a.name), iv, .string (bs a.code)]

theorem NamesAt.len {w0 : World} {v : Value} {ss : List (List UInt8)} (h : NamesAt w0 v ss) (w : World) (ty : TypeId) : (Builtin.len_ #[22] ty #[v]).run Tryd.prog w = .ok (.int .i64 ss.length) w := by
  have := StrsAt.len (P := Tryd.prog) h Tryd.underlying22 w ty
  simpa using this
theorem NamesAt.le {w0 : World} {v : Value} {ss : List (List UInt8)} (h : NamesAt w0 v ss) : ss.length ≤ maxLen := by
  have := h.2.1
  simpa using this
theorem NamesAt.wide {w0 : World} {v : Value} {ss : List (List UInt8)} (h : NamesAt w0 v ss) : ∀ s ∈ ss, s.length ≤ maxLen := by
  intro s hs
  have := h.2.2 (bs s) (List.mem_map.2 ⟨s, hs, rfl⟩)
  rwa [bs_size] at this

set_option maxRecDepth 100000 in
set_option maxHeartbeats 1000000 in
theorem isAction_any (a : ActR) (iv : Value) (w : World) (hn : a.name.length ≤ maxLen) (hc : a.code.length ≤ maxLen) (hi : NamesAt w iv a.ins) :
    Calls Tryd.prog 69 #[actV a iv] w (Rets (.bool (actOK a)) (Chg (fun _ => False) w)) := by
  have h1 := fun w => isNameL_any a.name hn w
  have hsz := bs_size a.code
  have hle := hi.le
  have hlen := hi.len
  have hz : World.heap w = World.heap w := rfl
  obtain ⟨W1, hW1⟩ : ∃ W1, W1 = w.alloc (.cells #[.string (bs a.name), iv, .string (bs a.code)] 41) := ⟨_, rfl⟩
  have hC1 : Chg (fun _ => False) w W1 := hW1 ▸ (Chg.refl _ w).alloc _
  have hb1 : W1.heap[w.heap.size]? = some (.cells #[.string (bs a.name), iv, .string (bs a.code)] 41 (0, 0)) := hW1 ▸ heap_alloc_new' w _
  have hA : ∀ W, Chg (fun _ => False) W1 W → Calls Tryd.prog 70 #[iv] W (Rets (.bool (a.ins.all nameL)) (Chg (fun _ => False) W)) := fun W hW => areNamesL_any iv a.ins W (hi.chg (hC1.trans hW (fun _ _ h => h)) (fun _ _ h => h))
  have hcell : ∀ W, Chg (fun _ => False) W1 W → W.cell? ⟨w.heap.size, 1, none⟩ = some iv ∧ W.cell? ⟨w.heap.size, 2, none⟩ = some (.string (bs a.code)) := fun W hW =>
    ⟨(cell_of (hW.obj hb1 (fun h => h)) 1), (cell_of (hW.obj hb1 (fun h => h)) 2)⟩
  have hok : actOK a = (nameL a.name && a.ins.all nameL && decide (a.ins.length ≤ 4) && decide (a.code.length ≤ 64)) := rfl
  unfold actV
  rw [← bs_size] at hc
  unfold maxLen at hle hc
  have HA := hid hA
  have HC := hid hcell
  have H1 := hid hC1
  rw [hok]
  clear hA hcell hC1 hi hok
  generalize a.ins.all nameL = B2 at HA ⊢
  generalize nameL a.name = B1 at h1 ⊢
  generalize bs a.name = nm at *
  obtain ⟨n, hn'⟩ : ∃ n, n = a.ins.length := ⟨_, rfl⟩
  rw [← hn'] at hlen hle ⊢
  rw [← hsz]
  generalize bs a.code = cd at *
  clear hsz hn'
  cases B1 with
  | false =>
    go_enter Tryd.func69, Tryd.ntmps69
    rw [hW1] at H1
    clear HA HC hb1 hW1
    go_wp2_with (go_at_call 80; refine (h1 _).mono ?_; rintro e w' ⟨rfl, hc1⟩)
    go_ret
    exact ⟨rfl, H1.out.trans hc1 (fun _ _ h => h)⟩
  | true =>
    cases B2 with
    | false =>
      go_enter Tryd.func69, Tryd.ntmps69
      rw [hW1] at H1 HA HC
      clear hb1 hW1
      go_wp2_with (first | (go_at_call 80; refine (h1 _).mono ?_; rintro e w' ⟨rfl, hc1⟩; have c1 := (HC.out _ hc1).1; have c2 := (HC.out _ hc1).2) | (go_at_call 70; refine (HA.out _ hc1).mono ?_; rintro e w2 ⟨rfl, hc2⟩; have d1 := (HC.out _ (hc1.trans hc2 (fun _ _ h => h))).1; have d2 := (HC.out _ (hc1.trans hc2 (fun _ _ h => h))).2))
      go_ret
      exact ⟨rfl, (H1.out.trans hc1 (fun _ _ h => h)).trans hc2 (fun _ _ h => h)⟩
    | true =>
      by_cases h4 : n ≤ 4
      · have h4' : (n : Int) ≤ 4 := by omega
        by_cases h64 : cd.size ≤ 64
        · have h64' : (cd.size : Int) ≤ 64 := by omega
          go_enter Tryd.func69, Tryd.ntmps69
          rw [hW1] at H1 HA HC
          clear hb1 hW1
          go_wp2_with (first | (go_at_call 80; refine (h1 _).mono ?_; rintro e w' ⟨rfl, hc1⟩; have c1 := (HC.out _ hc1).1; have c2 := (HC.out _ hc1).2) | (go_at_call 70; refine (HA.out _ hc1).mono ?_; rintro e w2 ⟨rfl, hc2⟩; have d1 := (HC.out _ (hc1.trans hc2 (fun _ _ h => h))).1; have d2 := (HC.out _ (hc1.trans hc2 (fun _ _ h => h))).2))
          go_ret
          exact ⟨by simp [h4, h64], (H1.out.trans hc1 (fun _ _ h => h)).trans hc2 (fun _ _ h => h)⟩
        · have h64' : ¬ (cd.size : Int) ≤ 64 := by omega
          go_enter Tryd.func69, Tryd.ntmps69
          rw [hW1] at H1 HA HC
          clear hb1 hW1
          go_wp2_with (first | (go_at_call 80; refine (h1 _).mono ?_; rintro e w' ⟨rfl, hc1⟩; have c1 := (HC.out _ hc1).1; have c2 := (HC.out _ hc1).2) | (go_at_call 70; refine (HA.out _ hc1).mono ?_; rintro e w2 ⟨rfl, hc2⟩; have d1 := (HC.out _ (hc1.trans hc2 (fun _ _ h => h))).1; have d2 := (HC.out _ (hc1.trans hc2 (fun _ _ h => h))).2))
          go_ret
          exact ⟨by simp [h4, h64]; omega, (H1.out.trans hc1 (fun _ _ h => h)).trans hc2 (fun _ _ h => h)⟩
      · have h4' : ¬ (n : Int) ≤ 4 := by omega
        go_enter Tryd.func69, Tryd.ntmps69
        rw [hW1] at H1 HA HC
        clear hb1 hW1
        go_wp2_with (first | (go_at_call 80; refine (h1 _).mono ?_; rintro e w' ⟨rfl, hc1⟩; have c1 := (HC.out _ hc1).1; have c2 := (HC.out _ hc1).2) | (go_at_call 70; refine (HA.out _ hc1).mono ?_; rintro e w2 ⟨rfl, hc2⟩; have d1 := (HC.out _ (hc1.trans hc2 (fun _ _ h => h))).1; have d2 := (HC.out _ (hc1.trans hc2 (fun _ _ h => h))).2))
        go_ret
        exact ⟨by simp, (H1.out.trans hc1 (fun _ _ h => h)).trans hc2 (fun _ _ h => h)⟩

/-- The action at a place of a row: its cells, and that they stay. -/
theorem ActsAt.at {w : World} {v : Value} {xs : List ActR} {iv : Nat → Value} (h : ActsAt w v xs iv) (k : Nat) (hk : k < xs.length) :
    ∃ bb oo, (∀ w, (Instr.indexAt 23 v (.int .i64 k)).run Tryd.prog w = .ok (.pointer (some ⟨bb, oo, none⟩)) w) ∧ bb < w.heap.size ∧
      w.cell? ⟨bb, oo, none⟩ = some (.string (bs xs[k].name)) ∧ w.cell? ⟨bb, oo + 1, none⟩ = some (iv k) ∧ w.cell? ⟨bb, oo + 2, none⟩ = some (.string (bs xs[k].code)) ∧ NamesAt w (iv k) xs[k].ins ∧ xs[k].name.length ≤ maxLen ∧ xs[k].code.length ≤ maxLen := by
  obtain ⟨bb, oo, h1, h2, h3⟩ := h.rows.ix (P := Tryd.prog) Tryd.underlying23 (fun w => by kernel_rfl) (by decide) k hk
  have hg : xs.getD k noAct = xs[k] := by simp [List.getD_eq_getElem?_getD, hk]
  have hw := h.wide _ (List.getElem_mem hk)
  have hi := h.ins k hk
  rw [hg] at hi
  simp only [hg] at h2
  exact ⟨bb, oo, h1, h3, h2 0 (by decide), h2 1 (by decide), h2 2 (by decide), hi, hw.1, hw.2⟩
theorem ActsAt.len {w0 : World} {v : Value} {xs : List ActR} {iv : Nat → Value} (h : ActsAt w0 v xs iv) (w : World) (ty : TypeId) : (Builtin.len_ #[23] ty #[v]).run Tryd.prog w = .ok (.int .i64 xs.length) w :=
  RowsAt.len (P := Tryd.prog) h.rows Tryd.underlying23 w ty

theorem NamesAt.form {w : World} {v : Value} {ss : List (List UInt8)} (h : NamesAt w v ss) : ∃ oa c, v = .slice oa ss.length c := by
  rcases h.1 with ⟨h1, h2⟩ | ⟨a, cap, h1, _⟩
  · exact ⟨none, 0, by rw [h1, show ss.length = 0 by simpa using congrArg List.length h2]⟩
  · exact ⟨some a, cap, by rw [h1]; simp⟩
theorem ActsAt.form {w : World} {v : Value} {xs : List ActR} {iv : Nat → Value} (h : ActsAt w v xs iv) : ∃ oa c, v = .slice oa xs.length c := by
  rcases h.rows.form with ⟨h1, h2⟩ | ⟨a, cap, h1, _⟩
  · exact ⟨none, 0, by rw [h1, h2]⟩
  · exact ⟨some a, cap, h1⟩
theorem GrAt.form {w : World} {v : Value} {g : GrR} (h : GrAt w v g) : ∃ oa c ob d iv, v = .agg #[.slice oa g.srcs.length c, .slice ob g.acts.length d] ∧ NamesAt w (.slice oa g.srcs.length c) g.srcs ∧ ActsAt w (.slice ob g.acts.length d) g.acts iv := by
  obtain ⟨sv, av, iv, rfl, h1, h2⟩ := h
  obtain ⟨oa, c, rfl⟩ := h1.form
  obtain ⟨ob, d, rfl⟩ := h2.form
  exact ⟨oa, c, ob, d, iv, rfl, h1, h2⟩

theorem notAction_any (a : ActR) (iv : Value) (w : World) (hn : a.name.length ≤ maxLen) (hc : a.code.length ≤ maxLen) (hi : NamesAt w iv a.ins) :
    Calls Tryd.prog 68 #[actV a iv] w (Rets (.bool (!actOK a)) (Chg (fun _ => False) w)) := by
  have hC1 : Chg (fun _ => False) w (w.alloc (.cells #[.string (bs a.name), iv, .string (bs a.code)] 41)) := (Chg.refl _ w).alloc _
  have h := isAction_any a iv (w.alloc (.cells #[.string (bs a.name), iv, .string (bs a.code)] 41)) hn hc (hi.chg hC1 (fun _ _ h => h))
  clear hi hn hc
  unfold actV at h ⊢
  generalize actOK a = B at *
  generalize bs a.name = nm at *
  generalize bs a.code = cd at *
  go_enter Tryd.func68, Tryd.ntmps68
  go_wp2_with (go_at_call 69; refine h.mono ?_; rintro e w' ⟨rfl, hc1⟩)
  go_ret
  exact ⟨rfl, hC1.trans hc1 (fun _ _ h => h)⟩

set_option maxHeartbeats 1000000 in
theorem ixa_any (v : Value) (xs : List ActR) (iv : Nat → Value) (w : World) (hin : ActsAt w v xs iv) :
    Calls Tryd.prog 40 #[v, .func (.func 68) #[] #[]] w (fun e w' => ∃ r : Int, e = .returned (.int .i64 r) ∧ (r < 0 ↔ ∀ a ∈ xs, actOK a = true) ∧ Chg (fun _ => False) w w') := by
  have hlenI := hin.len
  have hmx := hin.rows.le
  unfold maxLen at hmx
  have H := hid hin
  clear hin
  go_enter Tryd.func40, Tryd.ntmps40
  go_wp2_with fail
  go_loopw [8] (fun i wr => ∃ k : Nat, k ≤ xs.length ∧ i = .int .i64 k ∧ Chg (fun _ => False) w wr ∧ ∀ j (h : j < xs.length), j < k → actOK xs[j] = true) (fun i _ => xs.length - (intOf i).toNat)
  case atStart => exact ⟨0, Nat.zero_le _, rfl, Chg.refl _ _, fun j _ h => absurd h (Nat.not_lt_zero _)⟩
  case round =>
    obtain ⟨k, hk, rfl, hch, hall⟩ := hrel
    have HA := hid hall
    have HC := hid hch
    have S2 := H.out.chg hch (fun _ _ h => h)
    clear hall hch
    by_cases hkn : k < xs.length
    · have hkn' : (k : Int) < xs.length := by omega
      obtain ⟨bb, oo, hix, hlt, e0, e1, e2, hns, hw1, hw2⟩ := S2.at k hkn
      have hn := notAction_any xs[k] (iv k) wr hw1 hw2 hns
      unfold actV at hn
      clear S2 hns hw1 hw2
      cases hw : actOK xs[k] with
      | false =>
        rw [hw] at hn
        generalize bs xs[k].name = nm at *
        generalize bs xs[k].code = cd at *
        go_wp2_with (go_at_call 68; refine hn.mono ?_; rintro e w' ⟨rfl, hc⟩)
        go_ret
        refine ⟨k, rfl, ⟨fun h => by omega, fun h => ?_⟩, HC.out.trans hc (fun _ _ h => h)⟩
        have := h _ (List.getElem_mem hkn)
        rw [hw] at this; cases this
      | true =>
        rw [hw] at hn
        generalize bs xs[k].name = nm at *
        generalize bs xs[k].code = cd at *
        go_wp2_with (go_at_call 68; refine hn.mono ?_; rintro e w' ⟨rfl, hc⟩)
        go_roundw
        case rel =>
          refine ⟨k + 1, by omega, by go_num, HC.out.trans hc (fun _ _ h => h), fun j hj hjk => ?_⟩
          by_cases e : j = k
          · subst e; exact hw
          · exact HA.out j hj (by omega)
        case measure => simp [intOf]; omega
    · obtain rfl : k = xs.length := by omega
      clear S2
      go_wp2_with fail
      go_ret
      refine ⟨_, rfl, ⟨fun _ s hs => ?_, fun _ => by decide⟩, HC.out⟩
      obtain ⟨j, hj, rfl⟩ := List.mem_iff_getElem.1 hs
      exact HA.out j hj hj
theorem cfa_any (v : Value) (xs : List ActR) (iv : Nat → Value) (w : World) (hin : ActsAt w v xs iv) :
    Calls Tryd.prog 71 #[v, .func (.func 68) #[] #[]] w (Rets (.bool (!xs.all actOK)) (Chg (fun _ => False) w)) := by
  have hix := ixa_any v xs iv w hin
  clear hin
  go_enter Tryd.func71, Tryd.ntmps71
  go_wp2_with (go_at_call 40; refine hix.mono ?_; rintro e w' ⟨r, rfl, hr, hc⟩)
  go_ret
  refine ⟨?_, hc⟩
  have e1 : xs.all actOK = decide (r < 0) := by
    rw [Bool.eq_iff_iff, List.all_eq_true, decide_eq_true_eq, hr]
  rw [e1]
  by_cases h : r < 0
  · simp [h]
  · simp [h]; omega

set_option maxRecDepth 100000 in
set_option maxHeartbeats 1000000 in
theorem isGraph_any (g : GrR) (v : Value) (w : World) (hg : GrAt w v g) : Calls Tryd.prog 52 #[v] w (Rets (.bool (grOK g)) (Chg (fun _ => False) w)) := by
  obtain ⟨sv, av, iv, rfl, hs, ha⟩ := hg
  have hl1 := hs.len
  have hl2 := ha.len
  have hm1 := hs.le
  have hm2 := ha.rows.le
  have hok : grOK g = (decide (g.srcs.length ≤ 8) && decide (g.acts.length ≤ 12) && g.srcs.all nameL && g.acts.all actOK) := rfl
  obtain ⟨W1, hW1⟩ : ∃ W1, W1 = w.alloc (.cells #[sv, av] 25) := ⟨_, rfl⟩
  have hC1 : Chg (fun _ => False) w W1 := hW1 ▸ (Chg.refl _ w).alloc _
  have hb1 : W1.heap[w.heap.size]? = some (.cells #[sv, av] 25 (0, 0)) := hW1 ▸ heap_alloc_new' w _
  have hcell : ∀ W, Chg (fun _ => False) W1 W → W.cell? ⟨w.heap.size, 0, none⟩ = some sv ∧ W.cell? ⟨w.heap.size, 1, none⟩ = some av := fun W hW =>
    ⟨(cell_of (hW.obj hb1 (fun h => h)) 0), (cell_of (hW.obj hb1 (fun h => h)) 1)⟩
  have hN : ∀ W, Chg (fun _ => False) W1 W → Calls Tryd.prog 70 #[sv] W (Rets (.bool (g.srcs.all nameL)) (Chg (fun _ => False) W)) := fun W hW => areNamesL_any sv g.srcs W (hs.chg (hC1.trans hW (fun _ _ h => h)) (fun _ _ h => h))
  have hA : ∀ W, Chg (fun _ => False) W1 W → Calls Tryd.prog 71 #[av, .func (.func 68) #[] #[]] W (Rets (.bool (!g.acts.all actOK)) (Chg (fun _ => False) W)) := fun W hW => cfa_any av g.acts iv W (ha.chg (hC1.trans hW (fun _ _ h => h)) (fun _ _ h => h))
  rw [hok]
  unfold maxLen at hm1 hm2
  have HN := hid hN
  have HA := hid hA
  have HC := hid hcell
  have H1 := hid hC1
  clear hN hA hcell hC1 hs ha hok
  generalize g.srcs.all nameL = B1 at HN ⊢
  generalize g.acts.all actOK = B2 at HA ⊢
  generalize g.srcs.length = n1 at *
  generalize g.acts.length = n2 at *
  by_cases h8 : n1 ≤ 8
  · have h8' : (n1 : Int) ≤ 8 := by omega
    by_cases h12 : n2 ≤ 12
    · have h12' : (n2 : Int) ≤ 12 := by omega
      cases B1 with
      | false =>
        go_enter Tryd.func52, Tryd.ntmps52
        rw [hW1] at H1 HN HC
        clear hb1 hW1 HA
        go_wp2_with (go_at_call 70; refine (HN.out _ (Chg.refl _ _)).mono ?_; rintro e w' ⟨rfl, hc1⟩; have c1 := (HC.out _ hc1).1; have c2 := (HC.out _ hc1).2)
        go_ret
        exact ⟨by simp, H1.out.trans hc1 (fun _ _ h => h)⟩
      | true =>
        go_enter Tryd.func52, Tryd.ntmps52
        rw [hW1] at H1 HN HC HA
        clear hb1 hW1
        go_wp2_with (first | (go_at_call 70; refine (HN.out _ (Chg.refl _ _)).mono ?_; rintro e w' ⟨rfl, hc1⟩; have c1 := (HC.out _ hc1).1; have c2 := (HC.out _ hc1).2) | (go_at_call 71; refine (HA.out _ hc1).mono ?_; rintro e w2 ⟨rfl, hc2⟩))
        go_ret
        exact ⟨by simp [h8, h12], (H1.out.trans hc1 (fun _ _ h => h)).trans hc2 (fun _ _ h => h)⟩
    · have h12' : ¬ (n2 : Int) ≤ 12 := by omega
      go_enter Tryd.func52, Tryd.ntmps52
      rw [hW1] at H1
      clear hb1 hW1 HA HN HC
      go_wp2_with fail
      go_ret
      exact ⟨by simp, H1.out⟩
  · have h8' : ¬ (n1 : Int) ≤ 8 := by omega
    go_enter Tryd.func52, Tryd.ntmps52
    rw [hW1] at H1
    clear hb1 hW1 HA HN HC
    go_wp2_with fail
    go_ret
    exact ⟨by simp, H1.out⟩
end Go.Proofs.YtafdcmhckpdnbaaDoor
