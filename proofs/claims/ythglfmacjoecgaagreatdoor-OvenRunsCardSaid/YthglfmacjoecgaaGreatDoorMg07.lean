/- Texts of the proof, one behind the other: recipe.isAction, isGraph walked; recipe.word walked. -/
import Derived.Test.YthglfmacjoecgaaGreatDoorMg06
import Derived.Lib.SlBytesRow
import Derived.StillTailTactics
import Derived.Deep.RegionHeld3
namespace Go.Proofs.YthglfmacjoecgaaGreatDoor
open Go.RowKit

/-- An action as a value. -/
def actV (a : ActR) (iv : Value) : Value := .agg #[.string (bs a.name), iv, .string (bs a.code)]

theorem NamesAt.len {w0 : World} {v : Value} {ss : List (List UInt8)} (h : NamesAt w0 v ss) (w : World) (ty : TypeId) : (Builtin.len_ #[22] ty #[v]).run Tryz.prog w = .ok (.int .i64 ss.length) w := by
  have := StrsAt.len (P := Tryz.prog) h Tryz.underlying22 w ty
  simpa using this
theorem NamesAt.le {w0 : World} {v : Value} {ss : List (List UInt8)} (h : NamesAt w0 v ss) : ss.length ≤ maxLen := by
  have := h.2.1
  simpa using this
theorem NamesAt.wide {w0 : World} {v : Value} {ss : List (List UInt8)} (h : NamesAt w0 v ss) : ∀ s ∈ ss, s.length ≤ maxLen := by
  intro s hs
  have := h.2.2 (bs s) (List.mem_map.2 ⟨s, hs, rfl⟩)
  rwa [bs_size] at this

set_option maxRecDepth 100000 in
set_option maxHeartbeats 1000000 in
theorem isAction_any (a : ActR) (iv : Value) (w : World) (hn : a.name.length ≤ maxLen) (hc : a.code.length ≤ maxLen) (hi : NamesAt w iv a.ins) :
    Calls Tryz.prog 165 #[actV a iv] w (Rets (.bool (actOK a)) (Chg (fun _ => False) w)) := by
  have h1 := fun w => isNameL_any a.name hn w
  have hsz := bs_size a.code
  have hle := hi.le
  have hlen := hi.len
  have hz : World.heap w = World.heap w := rfl
  obtain ⟨W1, hW1⟩ : ∃ W1, W1 = w.alloc (.cells #[.string (bs a.name), iv, .string (bs a.code)] 43) := ⟨_, rfl⟩
  have hC1 : Chg (fun _ => False) w W1 := hW1 ▸ (Chg.refl _ w).alloc _
  have hb1 : W1.heap[w.heap.size]? = some (.cells #[.string (bs a.name), iv, .string (bs a.code)] 43 (0, 0)) := hW1 ▸ heap_alloc_new' w _
  have hA : ∀ W, Chg (fun _ => False) W1 W → Calls Tryz.prog 166 #[iv] W (Rets (.bool (a.ins.all nameL)) (Chg (fun _ => False) W)) := fun W hW => areNamesL_any iv a.ins W (hi.chg (hC1.trans hW (fun _ _ h => h)) (fun _ _ h => h))
  have hcell : ∀ W, Chg (fun _ => False) W1 W → W.cell? ⟨w.heap.size, 1, none⟩ = some iv ∧ W.cell? ⟨w.heap.size, 2, none⟩ = some (.string (bs a.code)) := fun W hW =>
    ⟨(cell_of (hW.obj hb1 (fun h => h)) 1), (cell_of (hW.obj hb1 (fun h => h)) 2)⟩
  have hok : actOK a = (nameL a.name && a.ins.all nameL && decide (a.ins.length ≤ 4) && decide (a.code.length ≤ 64)) := rfl
  unfold actV
  rw [← bs_size] at hc
  unfold maxLen at hle hc
  have HA := hid hA
  have HC := hid hcell
  have H1 := hid hC1
  rw [hok]
  clear hA hcell hC1 hi hok
  generalize a.ins.all nameL = B2 at HA ⊢
  generalize nameL a.name = B1 at h1 ⊢
  generalize bs a.name = nm at *
  obtain ⟨n, hn'⟩ : ∃ n, n = a.ins.length := ⟨_, rfl⟩
  rw [← hn'] at hlen hle ⊢
  rw [← hsz]
  generalize bs a.code = cd at *
  clear hsz hn'
  cases B1 with
  | false =>
    go_enter Tryz.func165, Tryz.ntmps165
    rw [hW1] at H1
    clear HA HC hb1 hW1
    go_wp2_with (go_at_call 179; refine (h1 _).mono ?_; rintro e w' ⟨rfl, hc1⟩)
    go_ret
    exact ⟨rfl, H1.out.trans hc1 (fun _ _ h => h)⟩
  | true =>
    cases B2 with
    | false =>
      go_enter Tryz.func165, Tryz.ntmps165
      rw [hW1] at H1 HA HC
      clear hb1 hW1
      go_wp2_with (first | (go_at_call 179; refine (h1 _).mono ?_; rintro e w' ⟨rfl, hc1⟩; have c1 := (HC.out _ hc1).1; have c2 := (HC.out _ hc1).2) | (go_at_call 166; refine (HA.out _ hc1).mono ?_; rintro e w2 ⟨rfl, hc2⟩; have d1 := (HC.out _ (hc1.trans hc2 (fun _ _ h => h))).1; have d2 := (HC.out _ (hc1.trans hc2 (fun _ _ h => h))).2))
      go_ret
      exact ⟨rfl, (H1.out.trans hc1 (fun _ _ h => h)).trans hc2 (fun _ _ h => h)⟩
    | true =>
      by_cases h4 : n ≤ 4
      · have h4' : (n : Int) ≤ 4 := by omega
        by_cases h64 : cd.size ≤ 64
        · have h64' : (cd.size : Int) ≤ 64 := by omega
          go_enter Tryz.func165, Tryz.ntmps165
          rw [hW1] at H1 HA HC
          clear hb1 hW1
          go_wp2_with (first | (go_at_call 179; refine (h1 _).mono ?_; rintro e w' ⟨rfl, hc1⟩; have c1 := (HC.out _ hc1).1; have c2 := (HC.out _ hc1).2) | (go_at_call 166; refine (HA.out _ hc1).mono ?_; rintro e w2 ⟨rfl, hc2⟩; have d1 := (HC.out _ (hc1.trans hc2 (fun _ _ h => h))).1; have d2 := (HC.out _ (hc1.trans hc2 (fun _ _ h => h))).2))
          go_ret
          exact ⟨by simp [h4, h64], (H1.out.trans hc1 (fun _ _ h => h)).trans hc2 (fun _ _ h => h)⟩
        · have h64' : ¬ (cd.size : Int) ≤ 64 := by omega
          go_enter Tryz.func165, Tryz.ntmps165
          rw [hW1] at H1 HA HC
          clear hb1 hW1
          go_wp2_with (first | (go_at_call 179; refine (h1 _).mono ?_; rintro e w' ⟨rfl, hc1⟩; have c1 := (HC.out _ hc1).1; have c2 := (HC.out _ hc1).2) | (go_at_call 166; refine (HA.out _ hc1).mono ?_; rintro e w2 ⟨rfl, hc2⟩; have d1 := (HC.out _ (hc1.trans hc2 (fun _ _ h => h))).1; have d2 := (HC.out _ (hc1.trans hc2 (fun _ _ h => h))).2))
          go_ret
          exact ⟨by simp [h4, h64]; omega, (H1.out.trans hc1 (fun _ _ h => h)).trans hc2 (fun _ _ h => h)⟩
      · have h4' : ¬ (n : Int) ≤ 4 := by omega
        go_enter Tryz.func165, Tryz.ntmps165
        rw [hW1] at H1 HA HC
        clear hb1 hW1
        go_wp2_with (first | (go_at_call 179; refine (h1 _).mono ?_; rintro e w' ⟨rfl, hc1⟩; have c1 := (HC.out _ hc1).1; have c2 := (HC.out _ hc1).2) | (go_at_call 166; refine (HA.out _ hc1).mono ?_; rintro e w2 ⟨rfl, hc2⟩; have d1 := (HC.out _ (hc1.trans hc2 (fun _ _ h => h))).1; have d2 := (HC.out _ (hc1.trans hc2 (fun _ _ h => h))).2))
        go_ret
        exact ⟨by simp, (H1.out.trans hc1 (fun _ _ h => h)).trans hc2 (fun _ _ h => h)⟩

/-- The action at a place of a row: its cells, and that they stay. -/
theorem ActsAt.at {w : World} {v : Value} {xs : List ActR} {iv : Nat → Value} (h : ActsAt w v xs iv) (k : Nat) (hk : k < xs.length) :
    ∃ bb oo, (∀ w, (Instr.indexAt 23 v (.int .i64 k)).run Tryz.prog w = .ok (.pointer (some ⟨bb, oo, none⟩)) w) ∧ bb < w.heap.size ∧
      w.cell? ⟨bb, oo, none⟩ = some (.string (bs xs[k].name)) ∧ w.cell? ⟨bb, oo + 1, none⟩ = some (iv k) ∧ w.cell? ⟨bb, oo + 2, none⟩ = some (.string (bs xs[k].code)) ∧ NamesAt w (iv k) xs[k].ins ∧ xs[k].name.length ≤ maxLen ∧ xs[k].code.length ≤ maxLen := by
  obtain ⟨bb, oo, h1, h2, h3⟩ := h.rows.ix (P := Tryz.prog) Tryz.underlying23 (fun w => by kernel_rfl) (by decide) k hk
  have hg : xs.getD k noAct = xs[k] := by simp [List.getD_eq_getElem?_getD, hk]
  have hw := h.wide _ (List.getElem_mem hk)
  have hi := h.ins k hk
  rw [hg] at hi
  simp only [hg] at h2
  exact ⟨bb, oo, h1, h3, h2 0 (by decide), h2 1 (by decide), h2 2 (by decide), hi, hw.1, hw.2⟩
theorem ActsAt.len {w0 : World} {v : Value} {xs : List ActR} {iv : Nat → Value} (h : ActsAt w0 v xs iv) (w : World) (ty : TypeId) : (Builtin.len_ #[23] ty #[v]).run Tryz.prog w = .ok (.int .i64 xs.length) w :=
  RowsAt.len (P := Tryz.prog) h.rows Tryz.underlying23 w ty

theorem NamesAt.form {w : World} {v : Value} {ss : List (List UInt8)} (h : NamesAt w v ss) : ∃ oa c, v = .slice oa ss.length c := by
  rcases h.1 with ⟨h1, h2⟩ | ⟨a, cap, h1, _⟩
  · exact ⟨none, 0, by rw [h1, show ss.length = 0 by simpa using congrArg List.length h2]⟩
  · exact ⟨some a, cap, by rw [h1]; simp⟩
theorem ActsAt.form {w : World} {v : Value} {xs : List ActR} {iv : Nat → Value} (h : ActsAt w v xs iv) : ∃ oa c, v = .slice oa xs.length c := by
  rcases h.rows.form with ⟨h1, h2⟩ | ⟨a, cap, h1, _⟩
  · exact ⟨none, 0, by rw [h1, h2]⟩
  · exact ⟨some a, cap, h1⟩
theorem GrAt.form {w : World} {v : Value} {g : GrR} (h : GrAt w v g) : ∃ oa c ob d iv, v = .agg #[.slice oa g.srcs.length c, .slice ob g.acts.length d] ∧ NamesAt w (.slice oa g.srcs.length c) g.srcs ∧ ActsAt w (.slice ob g.acts.length d) g.acts iv := by
  obtain ⟨sv, av, iv, rfl, h1, h2⟩ := h
  obtain ⟨oa, c, rfl⟩ := h1.form
  obtain ⟨ob, d, rfl⟩ := h2.form
  exact ⟨oa, c, ob, d, iv, rfl, h1, h2⟩

theorem notAction_any (a : ActR) (iv : Value) (w : World) (hn : a.name.length ≤ maxLen) (hc : a.code.length ≤ maxLen) (hi : NamesAt w iv a.ins) :
    Calls Tryz.prog 164 #[actV a iv] w (Rets (.bool (!actOK a)) (Chg (fun _ => False) w)) := by
  have hC1 : Chg (fun _ => False) w (w.alloc (.cells #[.string (bs a.name), iv, .string (bs a.code)] 43)) := (Chg.refl _ w).alloc _
  have h := isAction_any a iv (w.alloc (.cells #[.string (bs a.name), iv, .string (bs a.code)] 43)) hn hc (hi.chg hC1 (fun _ _ h => h))
  clear hi hn hc
  unfold actV at h ⊢
  generalize actOK a = B at *
  generalize bs a.name = nm at *
  generalize bs a.code = cd at *
  go_enter Tryz.func164, Tryz.ntmps164
  go_wp2_with (go_at_call 165; refine h.mono ?_; rintro e w' ⟨rfl, hc1⟩)
  go_ret
  exact ⟨rfl, hC1.trans hc1 (fun _ _ h => h)⟩

set_option maxHeartbeats 1000000 in
theorem ixa_any (v : Value) (xs : List ActR) (iv : Nat → Value) (w : World) (hin : ActsAt w v xs iv) :
    Calls Tryz.prog 135 #[v, .func (.func 164) #[] #[]] w (fun e w' => ∃ r : Int, e = .returned (.int .i64 r) ∧ (r < 0 ↔ ∀ a ∈ xs, actOK a = true) ∧ Chg (fun _ => False) w w') := by
  have hlenI := hin.len
  have hmx := hin.rows.le
  unfold maxLen at hmx
  have H := hid hin
  clear hin
  go_enter Tryz.func135, Tryz.ntmps135
  go_wp2_with fail
  go_loopw [8] (fun i wr => ∃ k : Nat, k ≤ xs.length ∧ i = .int .i64 k ∧ Chg (fun _ => False) w wr ∧ ∀ j (h : j < xs.length), j < k → actOK xs[j] = true) (fun i _ => xs.length - (intOf i).toNat)
  case atStart => exact ⟨0, Nat.zero_le _, rfl, Chg.refl _ _, fun j _ h => absurd h (Nat.not_lt_zero _)⟩
  case round =>
    obtain ⟨k, hk, rfl, hch, hall⟩ := hrel
    have HA := hid hall
    have HC := hid hch
    have S2 := H.out.chg hch (fun _ _ h => h)
    clear hall hch
    by_cases hkn : k < xs.length
    · have hkn' : (k : Int) < xs.length := by omega
      obtain ⟨bb, oo, hix, hlt, e0, e1, e2, hns, hw1, hw2⟩ := S2.at k hkn
      have hn := notAction_any xs[k] (iv k) wr hw1 hw2 hns
      unfold actV at hn
      clear S2 hns hw1 hw2
      cases hw : actOK xs[k] with
      | false =>
        rw [hw] at hn
        generalize bs xs[k].name = nm at *
        generalize bs xs[k].code = cd at *
        go_wp2_with (go_at_call 164; refine hn.mono ?_; rintro e w' ⟨rfl, hc⟩)
        go_ret
        refine ⟨k, rfl, ⟨fun h => by omega, fun h => ?_⟩, HC.out.trans hc (fun _ _ h => h)⟩
        have := h _ (List.getElem_mem hkn)
        rw [hw] at this; cases this
      | true =>
        rw [hw] at hn
        generalize bs xs[k].name = nm at *
        generalize bs xs[k].code = cd at *
        go_wp2_with (go_at_call 164; refine hn.mono ?_; rintro e w' ⟨rfl, hc⟩)
        go_roundw
        case rel =>
          refine ⟨k + 1, by omega, by go_num, HC.out.trans hc (fun _ _ h => h), fun j hj hjk => ?_⟩
          by_cases e : j = k
          · subst e; exact hw
          · exact HA.out j hj (by omega)
        case measure => simp [intOf]; omega
    · obtain rfl : k = xs.length := by omega
      clear S2
      go_wp2_with fail
      go_ret
      refine ⟨_, rfl, ⟨fun _ s hs => ?_, fun _ => by decide⟩, HC.out⟩
      obtain ⟨j, hj, rfl⟩ := List.mem_iff_getElem.1 hs
      exact HA.out j hj hj
theorem cfa_any (v : Value) (xs : List ActR) (iv : Nat → Value) (w : World) (hin : ActsAt w v xs iv) :
    Calls Tryz.prog 167 #[v, .func (.func 164) #[] #[]] w (Rets (.bool (!xs.all actOK)) (Chg (fun _ => False) w)) := by
  have hix := ixa_any v xs iv w hin
  clear hin
  go_enter Tryz.func167, Tryz.ntmps167
  go_wp2_with (go_at_call 135; refine hix.mono ?_; rintro e w' ⟨r, rfl, hr, hc⟩)
  go_ret
  refine ⟨?_, hc⟩
  have e1 : xs.all actOK = decide (r < 0) := by
    rw [Bool.eq_iff_iff, List.all_eq_true, decide_eq_true_eq, hr]
  rw [e1]
  by_cases h : r < 0
  · simp [h]
  · simp [h]; omega

set_option maxRecDepth 100000 in
set_option maxHeartbeats 1000000 in
theorem isGraph_any (g : GrR) (v : Value) (w : World) (hg : GrAt w v g) : Calls Tryz.prog 145 #[v] w (Rets (.bool (grOK g)) (Chg (fun _ => False) w)) := by
  obtain ⟨sv, av, iv, rfl, hs, ha⟩ := hg
  have hl1 := hs.len
  have hl2 := ha.len
  have hm1 := hs.le
  have hm2 := ha.rows.le
  have hok : grOK g = (decide (g.srcs.length ≤ 8) && decide (g.acts.length ≤ 12) && g.srcs.all nameL && g.acts.all actOK) := rfl
  obtain ⟨W1, hW1⟩ : ∃ W1, W1 = w.alloc (.cells #[sv, av] 25) := ⟨_, rfl⟩
  have hC1 : Chg (fun _ => False) w W1 := hW1 ▸ (Chg.refl _ w).alloc _
  have hb1 : W1.heap[w.heap.size]? = some (.cells #[sv, av] 25 (0, 0)) := hW1 ▸ heap_alloc_new' w _
  have hcell : ∀ W, Chg (fun _ => False) W1 W → W.cell? ⟨w.heap.size, 0, none⟩ = some sv ∧ W.cell? ⟨w.heap.size, 1, none⟩ = some av := fun W hW =>
    ⟨(cell_of (hW.obj hb1 (fun h => h)) 0), (cell_of (hW.obj hb1 (fun h => h)) 1)⟩
  have hN : ∀ W, Chg (fun _ => False) W1 W → Calls Tryz.prog 166 #[sv] W (Rets (.bool (g.srcs.all nameL)) (Chg (fun _ => False) W)) := fun W hW => areNamesL_any sv g.srcs W (hs.chg (hC1.trans hW (fun _ _ h => h)) (fun _ _ h => h))
  have hA : ∀ W, Chg (fun _ => False) W1 W → Calls Tryz.prog 167 #[av, .func (.func 164) #[] #[]] W (Rets (.bool (!g.acts.all actOK)) (Chg (fun _ => False) W)) := fun W hW => cfa_any av g.acts iv W (ha.chg (hC1.trans hW (fun _ _ h => h)) (fun _ _ h => h))
  rw [hok]
  unfold maxLen at hm1 hm2
  have HN := hid hN
  have HA := hid hA
  have HC := hid hcell
  have H1 := hid hC1
  clear hN hA hcell hC1 hs ha hok
  generalize g.srcs.all nameL = B1 at HN ⊢
  generalize g.acts.all actOK = B2 at HA ⊢
  generalize g.srcs.length = n1 at *
  generalize g.acts.length = n2 at *
  by_cases h8 : n1 ≤ 8
  · have h8' : (n1 : Int) ≤ 8 := by omega
    by_cases h12 : n2 ≤ 12
    · have h12' : (n2 : Int) ≤ 12 := by omega
      cases B1 with
      | false =>
        go_enter Tryz.func145, Tryz.ntmps145
        rw [hW1] at H1 HN HC
        clear hb1 hW1 HA
        go_wp2_with (go_at_call 166; refine (HN.out _ (Chg.refl _ _)).mono ?_; rintro e w' ⟨rfl, hc1⟩; have c1 := (HC.out _ hc1).1; have c2 := (HC.out _ hc1).2)
        go_ret
        exact ⟨by simp, H1.out.trans hc1 (fun _ _ h => h)⟩
      | true =>
        go_enter Tryz.func145, Tryz.ntmps145
        rw [hW1] at H1 HN HC HA
        clear hb1 hW1
        go_wp2_with (first | (go_at_call 166; refine (HN.out _ (Chg.refl _ _)).mono ?_; rintro e w' ⟨rfl, hc1⟩; have c1 := (HC.out _ hc1).1; have c2 := (HC.out _ hc1).2) | (go_at_call 167; refine (HA.out _ hc1).mono ?_; rintro e w2 ⟨rfl, hc2⟩))
        go_ret
        exact ⟨by simp [h8, h12], (H1.out.trans hc1 (fun _ _ h => h)).trans hc2 (fun _ _ h => h)⟩
    · have h12' : ¬ (n2 : Int) ≤ 12 := by omega
      go_enter Tryz.func145, Tryz.ntmps145
      rw [hW1] at H1
      clear hb1 hW1 HA HN HC
      go_wp2_with fail
      go_ret
      exact ⟨by simp, H1.out⟩
  · have h8' : ¬ (n1 : Int) ≤ 8 := by omega
    go_enter Tryz.func145, Tryz.ntmps145
    rw [hW1] at H1
    clear hb1 hW1 HA HN HC
    go_wp2_with fail
    go_ret
    exact ⟨by simp, H1.out⟩
end Go.Proofs.YthglfmacjoecgaaGreatDoor
namespace Go.Proofs.YthglfmacjoecgaaGreatDoor
open Go.RowKit

theorem elU8 : ElT Tryz.prog 125 5 1 1 := .mk' (z := .int .u8 0) Tryz.underlying125 (by kernel_rfl) rfl (by decide) rfl
theorem elStr : ElT Tryz.prog 22 9 1 16 := .mk' (z := .string ByteArray.empty) Tryz.underlying22 (by kernel_rfl) rfl (by decide) rfl
def encB (b : UInt8) : Value := .int .u8 (b.toNat : Int)
def hex2 (c : List UInt8) : List UInt8 := c.flatMap fun b => [hexd (b.toNat / 16), hexd (b.toNat % 16)]
theorem hex2_len (c : List UInt8) : (hex2 c).length = 2 * c.length := flat_len c
theorem hex2_take (c : List UInt8) (k : Nat) (h : k < c.length) : hex2 (c.take (k + 1)) = hex2 (c.take k) ++ [hexd (c[k].toNat / 16), hexd (c[k].toNat % 16)] := by
  unfold hex2
  rw [List.take_succ_eq_append_getElem h, List.flatMap_append]
  rfl
/-- A row of bytes of the call's own as a text. -/
theorem conv_own (w : World) (v : Value) (l : List UInt8) (h : w.ownsRow 0 5 1 v l.length (l.map encB)) (W : World) (hW : Chg (fun k => v.ownBlock ≠ some k) w W) :
    (convert 125 9 v).run Tryz.prog W = .ok (.string (bs l)) W := by
  rcases h.2 with ⟨rfl, hl⟩ | ⟨g, cap, cur, rfl, _, hg, hcc, hcm, hsz, htk⟩
  · have : l = [] := List.length_eq_zero_iff.1 hl
    subst this
    simp [convert, run_underlying Tryz.underlying125, run_underlying Tryz.underlying9, run_underlying Tryz.underlying5]
    rfl
  · have hB : Lib.Bytes W g 0 (bs l) := by
      intro i hi
      have hi' : i < l.length := by rw [bs_size] at hi; exact hi
      have hc : w.cell? ⟨g, 0 + i, none⟩ = some (encB l[i]) := by
        have := h.cellAt i (by simpa using hi')
        simpa [List.getElem?_eq_getElem hi'] using this
      exact hW.cell hc (fun h => h rfl)
    have := Lib.run_convert_whole (P := Tryz.prog) W 125 5 9 Tryz.underlying125 Tryz.underlying5 Tryz.underlying9 g 0 (bs l) hB cap
    rwa [bs_size] at this

theorem and15 (b : UInt8) : bits .and .u8 (b.toNat : Int) 15 = (b.toNat : Int) % 16 := by
  have key : ∀ n : Fin 256, bits .and .u8 (n.1 : Int) 15 = (n.1 : Int) % 16 := by decide +kernel
  exact key ⟨b.toNat, b.toNat_lt⟩
theorem dig_at (i : Int) (h0 : 0 ≤ i) (h1 : i < 16) (hb : i.toNat < 16) : ({ data := #[48, 49, 50, 51, 52, 53, 54, 55, 56, 57, 97, 98, 99, 100, 101, 102] } : ByteArray)[i.toNat]'hb = hexd i.toNat := by
  obtain ⟨n, rfl⟩ : ∃ n : Nat, i = n := ⟨i.toNat, by omega⟩
  have key : ∀ k : Fin 16, ({ data := #[48, 49, 50, 51, 52, 53, 54, 55, 56, 57, 97, 98, 99, 100, 101, 102] } : ByteArray)[k.1]'k.2 = hexd k.1 := by decide +kernel
  exact key ⟨n, by omega⟩
def digitsS : ByteArray := { data := #[48, 49, 50, 51, 52, 53, 54, 55, 56, 57, 97, 98, 99, 100, 101, 102] }

set_option maxRecDepth 100000 in
set_option maxHeartbeats 1000000 in
theorem word_any (c : List UInt8) (hc : c.length ≤ 64) (w : World) : Calls Tryz.prog 147 #[.string (bs c)] w (Rets (.string (bs (wordL c))) (Chg (fun _ => False) w)) := by
  have hsz := bs_size c
  by_cases h0 : c = []
  · subst h0
    have e0 : (bs []).toList.isEmpty = true := by rw [ba_isEmpty]; rfl
    go_enter Tryz.func147, Tryz.ntmps147
    go_wp2
    go_ret
    exact ⟨rfl, Chg.refl _ _⟩
  · have hp : 0 < c.length := List.length_pos_iff.2 h0
    have e0 : (bs c).toList.isEmpty = false := by rw [ba_isEmpty, hsz]; simp; omega
    obtain ⟨w1, cap, hconv, hcell, hfz, hch, hsz1, hcap⟩ := conv_bytes (P := Tryz.prog) 9 125 5 Tryz.underlying9 Tryz.underlying125 Tryz.underlying5 w (bs c)
    have hwl : wordL c = hex2 c := by unfold wordL; rw [if_neg h0]; rfl
    rw [hwl]
    rw [hsz] at hconv hcap
    have hcell' : ∀ W, Chg (fun k => w1.heap.size ≤ k) w1 W → ∀ j (h : j < c.length), W.cell? ⟨w.heap.size, j, none⟩ = some (encB c[j]) := by
      intro W hW j hj
      have := hcell j (by omega)
      refine hW.cell (this.trans ?_) (by show ¬ w1.heap.size ≤ w.heap.size; omega)
      rfl
    have HC := hid hcell'
    have H1 := hid hch
    have HS := hid hsz1
    clear hcell hcell' hfz hch hsz1 hwl h0 hsz
    generalize bs c = sc at *
    go_enter Tryz.func147, Tryz.ntmps147
    go_wp2_with fail
    go_loopw [3, 11] (fun ov iv wr => ∃ k : Nat, k ≤ c.length ∧ iv = .int .i64 k ∧ wr.ownsRow 0 5 1 ov (2 * k) ((hex2 (c.take k)).map encB) ∧ (∀ b, ov.ownBlock = some b → w1.heap.size ≤ b) ∧ Chg (fun k => w1.heap.size ≤ k) w1 wr) (fun _ iv _ => c.length - (intOf iv).toNat)
    case atStart => exact ⟨0, Nat.zero_le _, rfl, by simpa [hex2] using World.ownsRow_nil _ _ _ _, by simp [Value.ownBlock], Chg.refl _ _⟩
    case round =>
      obtain ⟨k, hk, rfl, hown, hov, hw⟩ := hrel
      have HW := hid hw
      have HV := hid hov
      clear hw hov
      by_cases hkn : k < c.length
      · have hkn' : (k : Int) < c.length := by omega
        have hck := HC.out wr HW.out k hkn
        unfold encB at hck
        obtain ⟨x, hx⟩ : ∃ x, x = c[k] := ⟨_, rfl⟩
        rw [← hx] at hck
        have hx8 := x.toNat_lt
        have ha := and15 x
        have q1 : (0 : Int) ≤ (x.toNat : Int) / 16 := by omega
        have q2 : (x.toNat : Int) / 16 < 16 := by omega
        have q3 : (0 : Int) ≤ (x.toNat : Int) % 16 := by omega
        have q4 : (x.toNat : Int) % 16 < 16 := by omega
        have HX := hid hx
        clear hx
        go_wp2_with fail
        go_region_law (refine step_append_new rfl _ _ 125 rfl elU8 hown rfl _ 2 2 rfl rfl rfl (by unfold maxLen; omega) (by omega) (by decide) ?_; intro g1 cap1 w2 hown1 hchg hg1)
        all_goals go_wp2_with fail
        all_goals go_roundw
        all_goals first
          | (simp [intOf]; omega)
          | (refine ⟨k + 1, by omega, by go_num, ?_, ?_, HW.out.trans hchg ?_⟩
             · have e1 : (2 * (k + 1)) = 2 * k + 2 := by omega
               rw [e1, hex2_take c k hkn, List.map_append, ← HX.out]
               rw [dig_at _ q1 q2, dig_at _ q3 q4] at hown1
               exact hown1
             · intro b hb
               simp [Value.ownBlock] at hb
               subst hb
               rcases hg1 with h | h
               · exact HV.out _ h
               · exact Nat.le_trans HW.out.size h
             · intro i hi h
               exact HV.out _ h)
      · obtain rfl : k = c.length := by omega
        have hcv := conv_own wr u3 (hex2 c) (by rw [hex2_len]; simpa using hown) wr (Chg.refl _ _)
        go_wp2_with fail
        go_ret
        exact ⟨rfl, H1.out.trans HW.out (fun i hi h => by have := HS.out; omega)⟩
end Go.Proofs.YthglfmacjoecgaaGreatDoor
