/- Texts of the proof, one behind the other: recipe.isAction, isGraph walked; recipe.word walked; strings.Builder's copyCheck and WriteString walked at this program (the loader refuses copyCheck's panic; no run comes there); recipe.line; recipe.Print walked. -/
import Derived.Test.YthglfmacjoecgaaGreatDoorMg03
import Derived.Lib.SlBytesRow
import Derived.StillTailTactics
import Derived.Deep.RegionHeld3
import Derived.Deep.QuietTactic
import Derived.BigQuiet
namespace Go.Proofs.YthglfmacjoecgaaGreatDoor
open Go.RowKit

/-- An action as a value. -/
def actV (a : ActR) (iv : Value) : Value := .agg #[.string (bs a.name), iv, .string (bs a.code)]

theorem NamesAt.len {w0 : World} {v : Value} {ss : List (List UInt8)} (h : NamesAt w0 v ss) (w : World) (ty : TypeId) : (Builtin.len_ #[22] ty #[v]).run Tryz.prog w = .ok (.int .i64 ss.length) w := by
  have := StrsAt.len (P := Tryz.prog) h Tryz.underlying22 w ty
  simpa using this
theorem NamesAt.le {w0 : World} {v : Value} {ss : List (List UInt8)} (h : NamesAt w0 v ss) : ss.length ≤ maxLen := by
  have := h.2.1
  simpa using this
theorem NamesAt.wide {w0 : World} {v : Value} {ss : List (List UInt8)} (h : NamesAt w0 v ss) : ∀ s ∈ ss, s.length ≤ maxLen := by
  intro s hs
  have := h.2.2 (bs s) (List.mem_map.2 ⟨s, hs, rfl⟩)
  rwa [bs_size] at this

set_option maxRecDepth 100000 in
set_option maxHeartbeats 1000000 in
theorem isAction_any (a : ActR) (iv : Value) (w : World) (hn : a.name.length ≤ maxLen) (hc : a.code.length ≤ maxLen) (hi : NamesAt w iv a.ins) :
    Calls Tryz.prog 165 #[actV a iv] w (Rets (.bool (actOK a)) (Chg (fun _ => False) w)) := by
  have h1 := fun w => isNameL_any a.name hn w
  have hsz := bs_size a.code
  have hle := hi.le
  have hlen := hi.len
  have hz : World.heap w = World.heap w := rfl
  obtain ⟨W1, hW1⟩ : ∃ W1, W1 = w.alloc (.cells #[.string (bs a.name), iv, .string (bs a.code)] 43) := ⟨_, rfl⟩
  have hC1 : Chg (fun _ => False) w W1 := hW1 ▸ (Chg.refl _ w).alloc _
  have hb1 : W1.heap[w.heap.size]? = some (.cells #[.string (bs a.name), iv, .string (bs a.code)] 43 (0, 0)) := hW1 ▸ heap_alloc_new' w _
  have hA : ∀ W, Chg (fun _ => False) W1 W → Calls Tryz.prog 166 #[iv] W (Rets (.bool (a.ins.all nameL)) (Chg (fun _ => False) W)) := fun W hW => areNamesL_any iv a.ins W (hi.chg (hC1.trans hW (fun _ _ h => h)) (fun _ _ h => h))
  have hcell : ∀ W, Chg (fun _ => False) W1 W → W.cell? ⟨w.heap.size, 1, none⟩ = some iv ∧ W.cell? ⟨w.heap.size, 2, none⟩ = some (.string (bs a.code)) := fun W hW =>
    ⟨(cell_of (hW.obj hb1 (fun h => h)) 1), (cell_of (hW.obj hb1 (fun h => h)) 2)⟩
  have hok : actOK a = (nameL a.name && a.ins.all nameL && decide (a.ins.length ≤ 4) && decide (a.code.length ≤ 64)) := rfl
  unfold actV
  rw [← bs_size] at hc
  unfold maxLen at hle hc
  have HA := hid hA
  have HC := hid hcell
  have H1 := hid hC1
  rw [hok]
  clear hA hcell hC1 hi hok
  generalize a.ins.all nameL = B2 at HA ⊢
  generalize nameL a.name = B1 at h1 ⊢
  generalize bs a.name = nm at *
  obtain ⟨n, hn'⟩ : ∃ n, n = a.ins.length := ⟨_, rfl⟩
  rw [← hn'] at hlen hle ⊢
  rw [← hsz]
  generalize bs a.code = cd at *
  clear hsz hn'
  cases B1 with
  | false =>
    go_enter Tryz.func165, Tryz.ntmps165
    rw [hW1] at H1
    clear HA HC hb1 hW1
    go_wp2_with (go_at_call 179; refine (h1 _).mono ?_; rintro e w' ⟨rfl, hc1⟩)
    go_ret
    exact ⟨rfl, H1.out.trans hc1 (fun _ _ h => h)⟩
  | true =>
    cases B2 with
    | false =>
      go_enter Tryz.func165, Tryz.ntmps165
      rw [hW1] at H1 HA HC
      clear hb1 hW1
      go_wp2_with (first | (go_at_call 179; refine (h1 _).mono ?_; rintro e w' ⟨rfl, hc1⟩; have c1 := (HC.out _ hc1).1; have c2 := (HC.out _ hc1).2) | (go_at_call 166; refine (HA.out _ hc1).mono ?_; rintro e w2 ⟨rfl, hc2⟩; have d1 := (HC.out _ (hc1.trans hc2 (fun _ _ h => h))).1; have d2 := (HC.out _ (hc1.trans hc2 (fun _ _ h => h))).2))
      go_ret
      exact ⟨rfl, (H1.out.trans hc1 (fun _ _ h => h)).trans hc2 (fun _ _ h => h)⟩
    | true =>
      by_cases h4 : n ≤ 4
      · have h4' : (n : Int) ≤ 4 := by omega
        by_cases h64 : cd.size ≤ 64
        · have h64' : (cd.size : Int) ≤ 64 := by omega
          go_enter Tryz.func165, Tryz.ntmps165
          rw [hW1] at H1 HA HC
          clear hb1 hW1
          go_wp2_with (first | (go_at_call 179; refine (h1 _).mono ?_; rintro e w' ⟨rfl, hc1⟩; have c1 := (HC.out _ hc1).1; have c2 := (HC.out _ hc1).2) | (go_at_call 166; refine (HA.out _ hc1).mono ?_; rintro e w2 ⟨rfl, hc2⟩; have d1 := (HC.out _ (hc1.trans hc2 (fun _ _ h => h))).1; have d2 := (HC.out _ (hc1.trans hc2 (fun _ _ h => h))).2))
          go_ret
          exact ⟨by simp [h4, h64], (H1.out.trans hc1 (fun _ _ h => h)).trans hc2 (fun _ _ h => h)⟩
        · have h64' : ¬ (cd.size : Int) ≤ 64 := by omega
          go_enter Tryz.func165, Tryz.ntmps165
          rw [hW1] at H1 HA HC
          clear hb1 hW1
          go_wp2_with (first | (go_at_call 179; refine (h1 _).mono ?_; rintro e w' ⟨rfl, hc1⟩; have c1 := (HC.out _ hc1).1; have c2 := (HC.out _ hc1).2) | (go_at_call 166; refine (HA.out _ hc1).mono ?_; rintro e w2 ⟨rfl, hc2⟩; have d1 := (HC.out _ (hc1.trans hc2 (fun _ _ h => h))).1; have d2 := (HC.out _ (hc1.trans hc2 (fun _ _ h => h))).2))
          go_ret
          exact ⟨by simp [h4, h64]; omega, (H1.out.trans hc1 (fun _ _ h => h)).trans hc2 (fun _ _ h => h)⟩
      · have h4' : ¬ (n : Int) ≤ 4 := by omega
        go_enter Tryz.func165, Tryz.ntmps165
        rw [hW1] at H1 HA HC
        clear hb1 hW1
        go_wp2_with (first | (go_at_call 179; refine (h1 _).mono ?_; rintro e w' ⟨rfl, hc1⟩; have c1 := (HC.out _ hc1).1; have c2 := (HC.out _ hc1).2) | (go_at_call 166; refine (HA.out _ hc1).mono ?_; rintro e w2 ⟨rfl, hc2⟩; have d1 := (HC.out _ (hc1.trans hc2 (fun _ _ h => h))).1; have d2 := (HC.out _ (hc1.trans hc2 (fun _ _ h => h))).2))
        go_ret
        exact ⟨by simp, (H1.out.trans hc1 (fun _ _ h => h)).trans hc2 (fun _ _ h => h)⟩

/-- The action at a place of a row: its cells, and that they stay. -/
theorem ActsAt.at {w : World} {v : Value} {xs : List ActR} {iv : Nat → Value} (h : ActsAt w v xs iv) (k : Nat) (hk : k < xs.length) :
    ∃ bb oo, (∀ w, (Instr.indexAt 23 v (.int .i64 k)).run Tryz.prog w = .ok (.pointer (some ⟨bb, oo, none⟩)) w) ∧ bb < w.heap.size ∧
      w.cell? ⟨bb, oo, none⟩ = some (.string (bs xs[k].name)) ∧ w.cell? ⟨bb, oo + 1, none⟩ = some (iv k) ∧ w.cell? ⟨bb, oo + 2, none⟩ = some (.string (bs xs[k].code)) ∧ NamesAt w (iv k) xs[k].ins ∧ xs[k].name.length ≤ maxLen ∧ xs[k].code.length ≤ maxLen := by
  obtain ⟨bb, oo, h1, h2, h3⟩ := h.rows.ix (P := Tryz.prog) Tryz.underlying23 (fun w => by kernel_rfl) (by decide) k hk
  have hg : xs.getD k noAct = xs[k] := by simp [List.getD_eq_getElem?_getD, hk]
  have hw := h.wide _ (List.getElem_mem hk)
  have hi := h.ins k hk
  rw [hg] at hi
  simp only [hg] at h2
  exact ⟨bb, oo, h1, h3, h2 0 (by decide), h2 1 (by decide), h2 2 (by decide), hi, hw.1, hw.2⟩
theorem ActsAt.len {w0 : World} {v : Value} {xs : List ActR} {iv : Nat → Value} (h : ActsAt w0 v xs iv) (w : World) (ty : TypeId) : (Builtin.len_ #[23] ty #[v]).run Tryz.prog w = .ok (.int .i64 xs.length) w :=
  RowsAt.len (P := Tryz.prog) h.rows Tryz.underlying23 w ty

theorem NamesAt.form {w : World} {v : Value} {ss : List (List UInt8)} (h : NamesAt w v ss) : ∃ oa c, v = .slice oa ss.length c := by
  rcases h.1 with ⟨h1, h2⟩ | ⟨a, cap, h1, _⟩
  · exact ⟨none, 0, by rw [h1, show ss.length = 0 by simpa using congrArg List.length h2]⟩
  · exact ⟨some a, cap, by rw [h1]; simp⟩
theorem ActsAt.form {w : World} {v : Value} {xs : List ActR} {iv : Nat → Value} (h : ActsAt w v xs iv) : ∃ oa c, v = .slice oa xs.length c := by
  rcases h.rows.form with ⟨h1, h2⟩ | ⟨a, cap, h1, _⟩
  · exact ⟨none, 0, by rw [h1, h2]⟩
  · exact ⟨some a, cap, h1⟩
theorem GrAt.form {w : World} {v : Value} {g : GrR} (h : GrAt w v g) : ∃ oa c ob d iv, v = .agg #[.slice oa g.srcs.length c, .slice ob g.acts.length d] ∧ NamesAt w (.slice oa g.srcs.length c) g.srcs ∧ ActsAt w (.slice ob g.acts.length d) g.acts iv := by
  obtain ⟨sv, av, iv, rfl, h1, h2⟩ := h
  obtain ⟨oa, c, rfl⟩ := h1.form
  obtain ⟨ob, d, rfl⟩ := h2.form
  exact ⟨oa, c, ob, d, iv, rfl, h1, h2⟩

theorem notAction_any (a : ActR) (iv : Value) (w : World) (hn : a.name.length ≤ maxLen) (hc : a.code.length ≤ maxLen) (hi : NamesAt w iv a.ins) :
    Calls Tryz.prog 164 #[actV a iv] w (Rets (.bool (!actOK a)) (Chg (fun _ => False) w)) := by
  have hC1 : Chg (fun _ => False) w (w.alloc (.cells #[.string (bs a.name), iv, .string (bs a.code)] 43)) := (Chg.refl _ w).alloc _
  have h := isAction_any a iv (w.alloc (.cells #[.string (bs a.name), iv, .string (bs a.code)] 43)) hn hc (hi.chg hC1 (fun _ _ h => h))
  clear hi hn hc
  unfold actV at h ⊢
  generalize actOK a = B at *
  generalize bs a.name = nm at *
  generalize bs a.code = cd at *
  go_enter Tryz.func164, Tryz.ntmps164
  go_wp2_with (go_at_call 165; refine h.mono ?_; rintro e w' ⟨rfl, hc1⟩)
  go_ret
  exact ⟨rfl, hC1.trans hc1 (fun _ _ h => h)⟩

set_option maxHeartbeats 1000000 in
theorem ixa_any (v : Value) (xs : List ActR) (iv : Nat → Value) (w : World) (hin : ActsAt w v xs iv) :
    Calls Tryz.prog 135 #[v, .func (.func 164) #[] #[]] w (fun e w' => ∃ r : Int, e = .returned (.int .i64 r) ∧ (r < 0 ↔ ∀ a ∈ xs, actOK a = true) ∧ Chg (fun _ => False) w w') := by
  have hlenI := hin.len
  have hmx := hin.rows.le
  unfold maxLen at hmx
  have H := hid hin
  clear hin
  go_enter Tryz.func135, Tryz.ntmps135
  go_wp2_with fail
  go_loopw [8] (fun i wr => ∃ k : Nat, k ≤ xs.length ∧ i = .int .i64 k ∧ Chg (fun _ => False) w wr ∧ ∀ j (h : j < xs.length), j < k → actOK xs[j] = true) (fun i _ => xs.length - (intOf i).toNat)
  case atStart => exact ⟨0, Nat.zero_le _, rfl, Chg.refl _ _, fun j _ h => absurd h (Nat.not_lt_zero _)⟩
  case round =>
    obtain ⟨k, hk, rfl, hch, hall⟩ := hrel
    have HA := hid hall
    have HC := hid hch
    have S2 := H.out.chg hch (fun _ _ h => h)
    clear hall hch
    by_cases hkn : k < xs.length
    · have hkn' : (k : Int) < xs.length := by omega
      obtain ⟨bb, oo, hix, hlt, e0, e1, e2, hns, hw1, hw2⟩ := S2.at k hkn
      have hn := notAction_any xs[k] (iv k) wr hw1 hw2 hns
      unfold actV at hn
      clear S2 hns hw1 hw2
      cases hw : actOK xs[k] with
      | false =>
        rw [hw] at hn
        generalize bs xs[k].name = nm at *
        generalize bs xs[k].code = cd at *
        go_wp2_with (go_at_call 164; refine hn.mono ?_; rintro e w' ⟨rfl, hc⟩)
        go_ret
        refine ⟨k, rfl, ⟨fun h => by omega, fun h => ?_⟩, HC.out.trans hc (fun _ _ h => h)⟩
        have := h _ (List.getElem_mem hkn)
        rw [hw] at this; cases this
      | true =>
        rw [hw] at hn
        generalize bs xs[k].name = nm at *
        generalize bs xs[k].code = cd at *
        go_wp2_with (go_at_call 164; refine hn.mono ?_; rintro e w' ⟨rfl, hc⟩)
        go_roundw
        case rel =>
          refine ⟨k + 1, by omega, by go_num, HC.out.trans hc (fun _ _ h => h), fun j hj hjk => ?_⟩
          by_cases e : j = k
          · subst e; exact hw
          · exact HA.out j hj (by omega)
        case measure => simp [intOf]; omega
    · obtain rfl : k = xs.length := by omega
      clear S2
      go_wp2_with fail
      go_ret
      refine ⟨_, rfl, ⟨fun _ s hs => ?_, fun _ => by decide⟩, HC.out⟩
      obtain ⟨j, hj, rfl⟩ := List.mem_iff_getElem.1 hs
      exact HA.out j hj hj
theorem cfa_any (v : Value) (xs : List ActR) (iv : Nat → Value) (w : World) (hin : ActsAt w v xs iv) :
    Calls Tryz.prog 167 #[v, .func (.func 164) #[] #[]] w (Rets (.bool (!xs.all actOK)) (Chg (fun _ => False) w)) := by
  have hix := ixa_any v xs iv w hin
  clear hin
  go_enter Tryz.func167, Tryz.ntmps167
  go_wp2_with (go_at_call 135; refine hix.mono ?_; rintro e w' ⟨r, rfl, hr, hc⟩)
  go_ret
  refine ⟨?_, hc⟩
  have e1 : xs.all actOK = decide (r < 0) := by
    rw [Bool.eq_iff_iff, List.all_eq_true, decide_eq_true_eq, hr]
  rw [e1]
  by_cases h : r < 0
  · simp [h]
  · simp [h]; omega

set_option maxRecDepth 100000 in
set_option maxHeartbeats 1000000 in
theorem isGraph_any (g : GrR) (v : Value) (w : World) (hg : GrAt w v g) : Calls Tryz.prog 145 #[v] w (Rets (.bool (grOK g)) (Chg (fun _ => False) w)) := by
  obtain ⟨sv, av, iv, rfl, hs, ha⟩ := hg
  have hl1 := hs.len
  have hl2 := ha.len
  have hm1 := hs.le
  have hm2 := ha.rows.le
  have hok : grOK g = (decide (g.srcs.length ≤ 8) && decide (g.acts.length ≤ 12) && g.srcs.all nameL && g.acts.all actOK) := rfl
  obtain ⟨W1, hW1⟩ : ∃ W1, W1 = w.alloc (.cells #[sv, av] 25) := ⟨_, rfl⟩
  have hC1 : Chg (fun _ => False) w W1 := hW1 ▸ (Chg.refl _ w).alloc _
  have hb1 : W1.heap[w.heap.size]? = some (.cells #[sv, av] 25 (0, 0)) := hW1 ▸ heap_alloc_new' w _
  have hcell : ∀ W, Chg (fun _ => False) W1 W → W.cell? ⟨w.heap.size, 0, none⟩ = some sv ∧ W.cell? ⟨w.heap.size, 1, none⟩ = some av := fun W hW =>
    ⟨(cell_of (hW.obj hb1 (fun h => h)) 0), (cell_of (hW.obj hb1 (fun h => h)) 1)⟩
  have hN : ∀ W, Chg (fun _ => False) W1 W → Calls Tryz.prog 166 #[sv] W (Rets (.bool (g.srcs.all nameL)) (Chg (fun _ => False) W)) := fun W hW => areNamesL_any sv g.srcs W (hs.chg (hC1.trans hW (fun _ _ h => h)) (fun _ _ h => h))
  have hA : ∀ W, Chg (fun _ => False) W1 W → Calls Tryz.prog 167 #[av, .func (.func 164) #[] #[]] W (Rets (.bool (!g.acts.all actOK)) (Chg (fun _ => False) W)) := fun W hW => cfa_any av g.acts iv W (ha.chg (hC1.trans hW (fun _ _ h => h)) (fun _ _ h => h))
  rw [hok]
  unfold maxLen at hm1 hm2
  have HN := hid hN
  have HA := hid hA
  have HC := hid hcell
  have H1 := hid hC1
  clear hN hA hcell hC1 hs ha hok
  generalize g.srcs.all nameL = B1 at HN ⊢
  generalize g.acts.all actOK = B2 at HA ⊢
  generalize g.srcs.length = n1 at *
  generalize g.acts.length = n2 at *
  by_cases h8 : n1 ≤ 8
  · have h8' : (n1 : Int) ≤ 8 := by omega
    by_cases h12 : n2 ≤ 12
    · have h12' : (n2 : Int) ≤ 12 := by omega
      cases B1 with
      | false =>
        go_enter Tryz.func145, Tryz.ntmps145
        rw [hW1] at H1 HN HC
        clear hb1 hW1 HA
        go_wp2_with (go_at_call 166; refine (HN.out _ (Chg.refl _ _)).mono ?_; rintro e w' ⟨rfl, hc1⟩; have c1 := (HC.out _ hc1).1; have c2 := (HC.out _ hc1).2)
        go_ret
        exact ⟨by simp, H1.out.trans hc1 (fun _ _ h => h)⟩
      | true =>
        go_enter Tryz.func145, Tryz.ntmps145
        rw [hW1] at H1 HN HC HA
        clear hb1 hW1
        go_wp2_with (first | (go_at_call 166; refine (HN.out _ (Chg.refl _ _)).mono ?_; rintro e w' ⟨rfl, hc1⟩; have c1 := (HC.out _ hc1).1; have c2 := (HC.out _ hc1).2) | (go_at_call 167; refine (HA.out _ hc1).mono ?_; rintro e w2 ⟨rfl, hc2⟩))
        go_ret
        exact ⟨by simp [h8, h12], (H1.out.trans hc1 (fun _ _ h => h)).trans hc2 (fun _ _ h => h)⟩
    · have h12' : ¬ (n2 : Int) ≤ 12 := by omega
      go_enter Tryz.func145, Tryz.ntmps145
      rw [hW1] at H1
      clear hb1 hW1 HA HN HC
      go_wp2_with fail
      go_ret
      exact ⟨by simp, H1.out⟩
  · have h8' : ¬ (n1 : Int) ≤ 8 := by omega
    go_enter Tryz.func145, Tryz.ntmps145
    rw [hW1] at H1
    clear hb1 hW1 HA HN HC
    go_wp2_with fail
    go_ret
    exact ⟨by simp, H1.out⟩
end Go.Proofs.YthglfmacjoecgaaGreatDoor
namespace Go.Proofs.YthglfmacjoecgaaGreatDoor
open Go.RowKit

theorem elU8 : ElT Tryz.prog 125 5 1 1 := .mk' (z := .int .u8 0) Tryz.underlying125 (by kernel_rfl) rfl (by decide) rfl
theorem elStr : ElT Tryz.prog 22 9 1 16 := .mk' (z := .string ByteArray.empty) Tryz.underlying22 (by kernel_rfl) rfl (by decide) rfl
def encB (b : UInt8) : Value := .int .u8 (b.toNat : Int)
def hex2 (c : List UInt8) : List UInt8 := c.flatMap fun b => [hexd (b.toNat / 16), hexd (b.toNat % 16)]
theorem hex2_len (c : List UInt8) : (hex2 c).length = 2 * c.length := flat_len c
theorem hex2_take (c : List UInt8) (k : Nat) (h : k < c.length) : hex2 (c.take (k + 1)) = hex2 (c.take k) ++ [hexd (c[k].toNat / 16), hexd (c[k].toNat % 16)] := by
  unfold hex2
  rw [List.take_succ_eq_append_getElem h, List.flatMap_append]
  rfl
/-- A row of bytes of the call's own as a text. -/
theorem conv_own (w : World) (v : Value) (l : List UInt8) (h : w.ownsRow 0 5 1 v l.length (l.map encB)) (W : World) (hW : Chg (fun k => v.ownBlock ≠ some k) w W) :
    (convert 125 9 v).run Tryz.prog W = .ok (.string (bs l)) W := by
  rcases h.2 with ⟨rfl, hl⟩ | ⟨g, cap, cur, rfl, _, hg, hcc, hcm, hsz, htk⟩
  · have : l = [] := List.length_eq_zero_iff.1 hl
    subst this
    simp [convert, run_underlying Tryz.underlying125, run_underlying Tryz.underlying9, run_underlying Tryz.underlying5]
    rfl
  · have hB : Lib.Bytes W g 0 (bs l) := by
      intro i hi
      have hi' : i < l.length := by rw [bs_size] at hi; exact hi
      have hc : w.cell? ⟨g, 0 + i, none⟩ = some (encB l[i]) := by
        have := h.cellAt i (by simpa using hi')
        simpa [List.getElem?_eq_getElem hi'] using this
      exact hW.cell hc (fun h => h rfl)
    have := Lib.run_convert_whole (P := Tryz.prog) W 125 5 9 Tryz.underlying125 Tryz.underlying5 Tryz.underlying9 g 0 (bs l) hB cap
    rwa [bs_size] at this

theorem and15 (b : UInt8) : bits .and .u8 (b.toNat : Int) 15 = (b.toNat : Int) % 16 := by
  have key : ∀ n : Fin 256, bits .and .u8 (n.1 : Int) 15 = (n.1 : Int) % 16 := by decide +kernel
  exact key ⟨b.toNat, b.toNat_lt⟩
theorem dig_at (i : Int) (h0 : 0 ≤ i) (h1 : i < 16) (hb : i.toNat < 16) : ({ data := #[48, 49, 50, 51, 52, 53, 54, 55, 56, 57, 97, 98, 99, 100, 101, 102] } : ByteArray)[i.toNat]'hb = hexd i.toNat := by
  obtain ⟨n, rfl⟩ : ∃ n : Nat, i = n := ⟨i.toNat, by omega⟩
  have key : ∀ k : Fin 16, ({ data := #[48, 49, 50, 51, 52, 53, 54, 55, 56, 57, 97, 98, 99, 100, 101, 102] } : ByteArray)[k.1]'k.2 = hexd k.1 := by decide +kernel
  exact key ⟨n, by omega⟩
def digitsS : ByteArray := { data := #[48, 49, 50, 51, 52, 53, 54, 55, 56, 57, 97, 98, 99, 100, 101, 102] }

set_option maxRecDepth 100000 in
set_option maxHeartbeats 1000000 in
theorem word_any (c : List UInt8) (hc : c.length ≤ 64) (w : World) : Calls Tryz.prog 147 #[.string (bs c)] w (Rets (.string (bs (wordL c))) (Chg (fun _ => False) w)) := by
  have hsz := bs_size c
  by_cases h0 : c = []
  · subst h0
    have e0 : (bs []).toList.isEmpty = true := by rw [ba_isEmpty]; rfl
    go_enter Tryz.func147, Tryz.ntmps147
    go_wp2
    go_ret
    exact ⟨rfl, Chg.refl _ _⟩
  · have hp : 0 < c.length := List.length_pos_iff.2 h0
    have e0 : (bs c).toList.isEmpty = false := by rw [ba_isEmpty, hsz]; simp; omega
    obtain ⟨w1, cap, hconv, hcell, hfz, hch, hsz1, hcap⟩ := conv_bytes (P := Tryz.prog) 9 125 5 Tryz.underlying9 Tryz.underlying125 Tryz.underlying5 w (bs c)
    have hwl : wordL c = hex2 c := by unfold wordL; rw [if_neg h0]; rfl
    rw [hwl]
    rw [hsz] at hconv hcap
    have hcell' : ∀ W, Chg (fun k => w1.heap.size ≤ k) w1 W → ∀ j (h : j < c.length), W.cell? ⟨w.heap.size, j, none⟩ = some (encB c[j]) := by
      intro W hW j hj
      have := hcell j (by omega)
      refine hW.cell (this.trans ?_) (by show ¬ w1.heap.size ≤ w.heap.size; omega)
      rfl
    have HC := hid hcell'
    have H1 := hid hch
    have HS := hid hsz1
    clear hcell hcell' hfz hch hsz1 hwl h0 hsz
    generalize bs c = sc at *
    go_enter Tryz.func147, Tryz.ntmps147
    go_wp2_with fail
    go_loopw [3, 11] (fun ov iv wr => ∃ k : Nat, k ≤ c.length ∧ iv = .int .i64 k ∧ wr.ownsRow 0 5 1 ov (2 * k) ((hex2 (c.take k)).map encB) ∧ (∀ b, ov.ownBlock = some b → w1.heap.size ≤ b) ∧ Chg (fun k => w1.heap.size ≤ k) w1 wr) (fun _ iv _ => c.length - (intOf iv).toNat)
    case atStart => exact ⟨0, Nat.zero_le _, rfl, by simpa [hex2] using World.ownsRow_nil _ _ _ _, by simp [Value.ownBlock], Chg.refl _ _⟩
    case round =>
      obtain ⟨k, hk, rfl, hown, hov, hw⟩ := hrel
      have HW := hid hw
      have HV := hid hov
      clear hw hov
      by_cases hkn : k < c.length
      · have hkn' : (k : Int) < c.length := by omega
        have hck := HC.out wr HW.out k hkn
        unfold encB at hck
        obtain ⟨x, hx⟩ : ∃ x, x = c[k] := ⟨_, rfl⟩
        rw [← hx] at hck
        have hx8 := x.toNat_lt
        have ha := and15 x
        have q1 : (0 : Int) ≤ (x.toNat : Int) / 16 := by omega
        have q2 : (x.toNat : Int) / 16 < 16 := by omega
        have q3 : (0 : Int) ≤ (x.toNat : Int) % 16 := by omega
        have q4 : (x.toNat : Int) % 16 < 16 := by omega
        have HX := hid hx
        clear hx
        go_wp2_with fail
        go_region_law (refine step_append_new rfl _ _ 125 rfl elU8 hown rfl _ 2 2 rfl rfl rfl (by unfold maxLen; omega) (by omega) (by decide) ?_; intro g1 cap1 w2 hown1 hchg hg1)
        all_goals go_wp2_with fail
        all_goals go_roundw
        all_goals first
          | (simp [intOf]; omega)
          | (refine ⟨k + 1, by omega, by go_num, ?_, ?_, HW.out.trans hchg ?_⟩
             · have e1 : (2 * (k + 1)) = 2 * k + 2 := by omega
               rw [e1, hex2_take c k hkn, List.map_append, ← HX.out]
               rw [dig_at _ q1 q2, dig_at _ q3 q4] at hown1
               exact hown1
             · intro b hb
               simp [Value.ownBlock] at hb
               subst hb
               rcases hg1 with h | h
               · exact HV.out _ h
               · exact Nat.le_trans HW.out.size h
             · intro i hi h
               exact HV.out _ h)
      · obtain rfl : k = c.length := by omega
        have hcv := conv_own wr u3 (hex2 c) (by rw [hex2_len]; simpa using hown) wr (Chg.refl _ _)
        go_wp2_with fail
        go_ret
        exact ⟨rfl, H1.out.trans HW.out (fun i hi h => by have := HS.out; omega)⟩
end Go.Proofs.YthglfmacjoecgaaGreatDoor
namespace Go.Proofs.YthglfmacjoecgaaGreatDoor
open Go.RowKit

set_option maxRecDepth 100000 in
theorem check_used (b : Nat) (w : World) (h0 : w.cell? ⟨b, 0, none⟩ = some (.pointer (some ⟨b, 0, none⟩))) :
    Calls Tryz.prog 125 #[.pointer (some ⟨b, 0, none⟩)] w (Rets (.tuple #[]) (fun w' => w' = w)) := by
  obtain ⟨j, hj, _⟩ := Option.map_eq_some_iff.1 Tryz.Builder_Extra_169.sizeBuilder
  go_enter Tryz.func125, Tryz.ntmps125
  go_wp2
  rw [Lib.run_neq_ptr_same w _ Tryz.underlying168 hj]
  go_wp2
  go_end0
  exact ⟨rfl, rfl⟩
set_option maxRecDepth 100000 in
theorem check_fresh (b : Nat) (w : World) (h0 : w.cell? ⟨b, 0, none⟩ = some (.pointer none)) (hsh : w.shape? b = some (170, 2)) (hfz : w.frozen? ⟨b, 0, none⟩ = false) :
    Calls Tryz.prog 125 #[.pointer (some ⟨b, 0, none⟩)] w (Rets (.tuple #[]) (fun w' => w' = w.setCell ⟨b, 0, none⟩ (.pointer (some ⟨b, 0, none⟩)))) := by
  obtain ⟨j, hj, hjs⟩ := Option.map_eq_some_iff.1 Tryz.Builder_Extra_169.sizeBuilder
  go_enter Tryz.func125, Tryz.ntmps125
  go_wp2
  rw [Lib.run_to_unsafe w ⟨b, 0, none⟩ Tryz.underlying168 Tryz.underlying212 hj (by rw [hjs]; decide) hsh (Nat.zero_lt_succ 1)]
  simp only [Result.andThen]
  rw [Oper.upon_value]
  go_wp2
  rw [run_callFunc_extern Tryz.func143 (by kernel_rfl) (by kernel_rfl) (by kernel_rfl) (e := Extern.AbiNoEscape.same) (by kernel_rfl)]
  rw [Lib.run_noEscape]
  simp only [Result.andThen]
  rw [Oper.upon_value]
  go_wp2
  rw [Lib.run_from_unsafe w ⟨b, 0, none⟩ Tryz.underlying212 Tryz.underlying168 hj hsh Tryz.Builder_Extra_169.liesBuilder]
  simp only [Result.andThen]
  rw [Oper.upon_value]
  go_wp2
  go_end0
  exact ⟨rfl, rfl⟩
theorem check_any (B b : Nat) (l : List Value) (w : World) (h : Lib.IsBuilder 170 5 B b l w) :
    Calls Tryz.prog 125 #[.pointer (some ⟨b, 0, none⟩)] w (Rets (.tuple #[]) (fun w' => Lib.BuilderAt 170 5 B b (.pointer (some ⟨b, 0, none⟩)) l w' ∧ Below B w w')) := by
  rcases h with h | h
  · refine (check_fresh b w h.cell0 h.shape h.frozen0).mono ?_
    rintro e w' ⟨rfl, rfl⟩
    exact ⟨rfl, h.used _, (Below.refl B w).setCell (p := ⟨b, 0, none⟩) h.1 _⟩
  · refine (check_used b w h.cell0).mono ?_
    rintro e w' ⟨rfl, rfl⟩
    exact ⟨rfl, h, Below.refl B _⟩

set_option maxRecDepth 100000 in
set_option maxHeartbeats 1000000 in
theorem write_any (B b : Nat) (l : List Value) (s : ByteArray) (w : World) (h : Lib.IsBuilder 170 5 B b l w) (hlen : l.length + s.size ≤ 140737488355328) (hBw : B ≤ w.heap.size) :
    Calls Tryz.prog 101 #[.pointer (some ⟨b, 0, none⟩), .string s] w (Rets (.tuple #[.int .i64 s.size, .nilIface]) (fun w' => Lib.BuilderAt 170 5 B b (.pointer (some ⟨b, 0, none⟩)) (l ++ Lib.strCells s) w' ∧ Below B w w')) := by
  obtain ⟨i0, hi, hz0, hz1, hz2⟩ := info_parts Tryz.Builder_Extra_169.infoByte
  have hck := check_any B b l w h
  go_enter Tryz.func101, Tryz.ntmps101
  go_wp2_with (go_at_call 125; refine hck.mono ?_)
  rintro e w1 ⟨rfl, h1, hb1⟩
  obtain ⟨hB, v, hbk, hown, hne⟩ := h1
  have c0 : w1.cell? ⟨b, 0, none⟩ = some (.pointer (some ⟨b, 0, none⟩)) := by rw [Lib.cell_of_heap hbk]; rfl
  have c1 : w1.cell? ⟨b, 1, none⟩ = some v := by rw [Lib.cell_of_heap hbk]; rfl
  go_wp2_with (at_builtin; refine Lib.wpList_append_own_string _ rfl _ _ 125 9 rfl B 5 i0 Tryz.underlying125 Tryz.underlying9 hi hz0 hz1 hz2 _ _ _ rfl hown s rfl ?c3 ?c4 ?c5 ?_)
  case c3 => unfold maxLen; omega
  case c4 => omega
  case c5 => have := hb1.size; omega
  intro v' w2 hown' hgrow _
  have hlt : b < w1.heap.size := heap_lt hbk
  have hb2 : w2.heap[b]? = some (.cells #[.pointer (some ⟨b, 0, none⟩), v] 170 (0, 0)) := by
    rw [hgrow.block b hlt (fun e => hne e.symm)]
    exact hbk
  have d0 : w2.cell? ⟨b, 0, none⟩ = some (.pointer (some ⟨b, 0, none⟩)) := by rw [Lib.cell_of_heap hb2]; rfl
  have d1 : w2.cell? ⟨b, 1, none⟩ = some v := by rw [Lib.cell_of_heap hb2]; rfl
  have f1 : w2.frozen? ⟨b, 1, none⟩ = false := Lib.frozen_of_heap hb2 1
  obtain ⟨ao, n', cap, rfl⟩ : ∃ ao n' cap, v' = .slice ao n' cap := by
    rcases hown'.2 with ⟨hv, _⟩ | ⟨g, cap, cur, hv, _⟩
    · exact ⟨_, _, _, hv⟩
    · exact ⟨_, _, _, hv⟩
  go_wp2
  go_ret2
  refine ⟨rfl, ?_, ?_⟩
  · exact Lib.BuilderAt.put (T := 170) (e := 5) hB hb2 (bs' := l ++ Lib.strCells s) (by simpa [Lib.strCells_length] using hown') (by decide)
  · exact (hb1.grown hgrow (by have := hb1.size; omega) (fun k hk => (hown.lt k hk).1)).setCell (p := ⟨b, 1, none⟩) hB _

set_option maxRecDepth 100000 in
theorem line_any (ws : List (List UInt8)) (bk o c : Nat) (w : World) (hc : ∀ i (h : i < ws.length), w.cell? ⟨bk, o + i, none⟩ = some (.string (bs ws[i]))) (hb : bk < w.heap.size) (hl : ws.length ≤ 1000) (hcap : ws.length ≤ c) (hj : (joinC 32 ws).length ≤ 100000) :
    Calls Tryz.prog 146 #[.slice (some ⟨bk, o, none⟩) ws.length c] w (Rets (.string (bs (joinC 32 ws ++ [10]))) (Chg (fun _ => False) w)) := by
  have hm : (ws.map bs).map (·.data.toList) = ws := by
    rw [List.map_map]
    calc ws.map ((·.data.toList) ∘ bs) = ws.map id := List.map_congr_left (fun s _ => bs_data s)
      _ = ws := List.map_id ws
  have h := Tryz.strings_Join bk o c (ws.map bs) { data := #[32] } w (fun j x hx => by
    rw [List.getElem?_map] at hx
    obtain ⟨y, hy, rfl⟩ := Option.map_eq_some_iff.1 hx
    obtain ⟨hlt, rfl⟩ := List.getElem?_eq_some_iff.1 hy
    exact hc j hlt) hb (by simp; omega) (by simpa using hcap) (by rw [hm]; show (Lib.join ws [32]).length ≤ _; rw [join_eq]; omega)
  rw [hm, List.length_map] at h
  have e1 : Lib.join ws ({ data := #[32] } : ByteArray).data.toList = joinC 32 ws := join_eq 32 ws
  rw [e1] at h
  have hsz : (⟨(joinC 32 ws).toArray⟩ : ByteArray).size = (joinC 32 ws).length := bs_size _
  have e2 : bs (joinC 32 ws ++ [10]) = (⟨(joinC 32 ws).toArray⟩ : ByteArray) ++ { data := #[10] } := bs_append _ [10]
  rw [e2]
  have HL := hid hj
  have hsm : ¬ 9223372036854775807 < (⟨(joinC 32 ws).toArray⟩ : ByteArray).size + 1 := by omega
  clear e1 e2 hm hc hj hsz
  generalize (⟨(joinC 32 ws).toArray⟩ : ByteArray) = r at *
  go_enter Tryz.func146, Tryz.ntmps146
  go_wp2_with (go_at_call 168; refine h.mono ?_; rintro e w' ⟨rfl, hb1⟩)
  go_ret
  exact ⟨rfl, (Chg.of_below hb1).mono (fun i hi h => by omega)⟩
end Go.Proofs.YthglfmacjoecgaaGreatDoor
namespace Go.Proofs.YthglfmacjoecgaaGreatDoor
open Go.RowKit

/-- 'append(s, x ..)' at a step of a region that draws, the new elements lying anywhere. -/
theorem step_append_src {P : Program} {w : World} {ops : Array Oper} {o : Oper} {a : Act} {K : Act → World → Prop} {Q : Exit → Act → World → Prop} {E : Prop} (hgd : o.guard = none) (s x : Operand) (t : TypeId)
    (ho : o.op = .call { callee := .builtin .append, args := #[s, x], argTypes := #[t, t] })
    {e : TypeId} {size bytes : Nat} (T : ElT P t e size bytes)
    {v : Value} {n : Nat} {xs : List Value} (hown : w.ownsRow 0 e size v n xs) (hs : a.eval s = v)
    (ad : Addr) (m c : Nat) (news : List Value) (hx : a.eval x = .slice (some ad) m c) (hl : news.length = m * size) (hnews : ∀ j u, news[j]? = some u → w.cell? (ad.add j) = some u) (h1 : ∀ u ∈ news, u.oneCell' = true)
    (h63 : n + m ≤ maxLen) (hbytes : (n + m) * bytes ≤ 140737488355328) (hm : m ≠ 0)
    (h : ∀ g cap w', w'.ownsRow 0 e size (.slice (some ⟨g, 0, none⟩) (n + m) cap) (n + m) (xs ++ news) → Chg (fun k => v.ownBlock = some k) w w' → (v.ownBlock = some g ∨ w.heap.size ≤ g) →
      K (a.put o.dst (.slice (some ⟨g, 0, none⟩) (n + m) cap)) w') : if Region.wanted o (yielded ops a.tmps) = true then Oper.wp P o a w K Q else E := by
  rw [if_pos (by simp [Region.wanted, hgd])]
  obtain ⟨i, z, hi, hz, h2, h3, h4, _⟩ := T.info
  obtain ⟨v', w', hr, r2, r3, r4, r5⟩ := run_append_chg (P := P) w t o.type e i z size bytes T.ht hi hz h2 h3 h4 T.pos v n xs hown ad m c news hl hnews h1 h63 hbytes
  obtain ⟨g, cap, rfl⟩ := r5 hm
  unfold Oper.wp execOp
  simp only [ho, resolve, invoke, builtin, Sem.run_bind, Sem.run_pure, Result.andThen_ok, List.map_toArray, List.map_cons, List.map_nil, hs, hx, hr]
  exact h g cap w' r2 r3 (r4 g rfl)

def strV (l : List UInt8) : Value := .string (bs l)
/-- The builder at block b holds l; what lay below b is as it was. -/
structure BdAt (w0 w : World) (b : Nat) (l : List UInt8) : Prop where
  bd : Lib.IsBuilder 170 5 b b (Lib.byteCells l) w
  ch : Chg (fun k => b ≤ k) w0 w
  lt : b < w.heap.size
theorem BdAt.keep {w0 w w' : World} {b : Nat} {l : List UInt8} (h : BdAt w0 w b l) (hc : Chg (fun k => w.heap.size ≤ k) w w') : BdAt w0 w' b l := by
  have hb := Nat.lt_of_lt_of_le h.lt hc.size
  refine ⟨?_, h.ch.trans hc (fun i hi h' => by have := h.ch.size; show b ≤ i; omega), hb⟩
  have key : ∀ p, Lib.BuilderAt 170 5 b b p (Lib.byteCells l) w → Lib.BuilderAt 170 5 b b p (Lib.byteCells l) w' := by
    rintro p ⟨hB, v, hbk, hown, hne⟩
    exact ⟨hB, v, hc.obj hbk (by have := h.lt; show ¬ w.heap.size ≤ b; omega), Chg.owns hc hown (fun k hk => by have := (World.ownsRow.lt hown k hk).2; show ¬ w.heap.size ≤ k; omega), hne⟩
  exact h.bd.imp (key _) (key _)
theorem BdAt.append {w0 w w' : World} {b : Nat} {l x : List UInt8} (h : BdAt w0 w b l) (hb : Lib.BuilderAt 170 5 b b (.pointer (some ⟨b, 0, none⟩)) (Lib.byteCells l ++ Lib.strCells (bs x)) w') (hc : Below b w w') : BdAt w0 w' b (l ++ x) := by
  refine ⟨.inr ?_, h.ch.trans (Chg.of_below hc) (fun _ _ h => h), Nat.lt_of_lt_of_le h.lt hc.size⟩
  have e : Lib.byteCells (l ++ x) = Lib.byteCells l ++ Lib.strCells (bs x) := by rw [Lib.byteCells_append, Lib.strCells_eq, bs_data]
  rw [e]; exact hb
theorem BdAt.write {w0 w : World} {b : Nat} {l : List UInt8} (h : BdAt w0 w b l) (x : List UInt8) (hl : l.length + x.length ≤ 100000) :
    Calls Tryz.prog 101 #[.pointer (some ⟨b, 0, none⟩), .string (bs x)] w (Rets (.tuple #[.int .i64 (bs x).size, .nilIface]) (fun w' => BdAt w0 w' b (l ++ x))) := by
  refine (write_any b b _ (bs x) w h.bd (by rw [Lib.byteCells_length, bs_size]; omega) (Nat.le_of_lt h.lt)).mono ?_
  rintro e w' ⟨rfl, h1, h2⟩
  exact ⟨rfl, h.append h1 h2⟩
theorem cell_alloc' {W : World} {a : Addr} {u : Value} (h : W.cell? a = some u) (o : Obj) : (W.alloc o).cell? a = some u :=
  ((Chg.refl (fun _ => False) W).alloc o).cell h (fun h => h)
theorem NamesAt.ix {w : World} {v : Value} {ss : List (List UInt8)} (h : NamesAt w v ss) (k : Nat) (hk : k < ss.length) :
    ∃ a : Addr, (∀ w, (Instr.indexAt 22 v (.int .i64 k)).run Tryz.prog w = .ok (.pointer (some a)) w) ∧ w.cell? a = some (.string (bs ss[k])) ∧ a.block < w.heap.size := by
  have := StrsAt.ix (P := Tryz.prog) h Tryz.underlying22 Tryz.sizeOf9 k (by simpa using hk)
  simpa using this

theorem owns_new (w : World) (xs : List Value) (e : TypeId) (size n : Nat) (h : xs.length = n * size) (hn : n ≤ maxLen) : (w.alloc (.cells xs.toArray e)).ownsRow 0 e size (.slice (some ⟨w.heap.size, 0, none⟩) n n) n xs :=
  ⟨h, .inr ⟨w.heap.size, n, xs.toArray, rfl, Nat.zero_le _, heap_alloc_new w _, Nat.le_refl _, hn, by simpa using h, by simp [← h]⟩⟩
theorem line_own (ws : List (List UInt8)) (W : World) (gg cc L : Nat) (xs : List Value) (hL : L = ws.length) (hown : W.ownsRow 0 9 1 (.slice (some ⟨gg, 0, none⟩) L cc) L xs) (hxs : xs = ws.map strV) (hl : ws.length ≤ 1000) (hj : (joinC 32 ws).length ≤ 100000) :
    Calls Tryz.prog 146 #[.slice (some ⟨gg, 0, none⟩) L cc] W (Rets (.string (bs (joinC 32 ws ++ [10]))) (Chg (fun _ => False) W)) := by
  subst hL hxs
  obtain ⟨cur, hg, hcc, _⟩ := ownsRow_heap hown
  refine line_any ws gg 0 cc W (fun i hi => ?_) (heap_lt hg) hl hcc hj
  have := hown.cellAt i (by simpa using hi)
  simpa [strV, List.getElem?_eq_getElem hi] using this

set_option maxRecDepth 100000 in
set_option maxHeartbeats 4000000 in
theorem print_any (g : GrR) (v : Value) (w : World) (hg : GrAt w v g) :
    Calls Tryz.prog 132 #[v] w (Rets (.tuple #[.string (bs ((printR g).getD [])), .int .i64 (if grOK g = true then 0 else 1)]) (Chg (fun _ => False) w)) := by
  have hig : ∀ W, Chg (fun _ => False) w W → Calls Tryz.prog 145 #[v] W (Rets (.bool (grOK g)) (Chg (fun _ => False) W)) := fun W hW => isGraph_any g v W (hg.chg hW (fun _ _ h => h))
  obtain ⟨sv, av, iv, rfl, hs, ha⟩ := hg
  have hC1 : Chg (fun _ => False) w (w.alloc (.cells #[sv, av] 25)) := (Chg.refl _ w).alloc _
  cases hok : grOK g with
  | false =>
    rw [hok] at hig
    have hr : printR g = none := by unfold printR; rw [hok]; rfl
    rw [hr]
    have h1 := hig _ hC1
    clear hig hs ha
    go_enter Tryz.func132, Tryz.ntmps132
    go_wp2_with (go_at_call 145; refine h1.mono ?_; rintro e w' ⟨rfl, hc⟩)
    go_ret2
    exact ⟨rfl, hC1.trans hc (fun _ _ h => h)⟩
  | true =>
    rw [hok] at hig
    obtain ⟨n1, n2, n3, n4⟩ := (grOK_iff g).1 hok
    have hr : printR g = some (textL g) := by unfold printR; rw [hok]; rfl
    rw [hr]
    have h1 := hig _ hC1
    have hl1 := hs.len
    have hl2 := ha.len
    have hgb : (w.alloc (.cells #[sv, av] 25)).heap[w.heap.size]? = some (.cells #[sv, av] 25 (0, 0)) := heap_alloc_new' w _
    have HI := hid n3
    have HJ := hid n4
    have HS := hid hs
    have HA := hid ha
    have HG := hid hgb
    clear hig hs ha n3 n4 hr hok hgb
    go_enter Tryz.func132, Tryz.ntmps132
    go_wp2_with (go_at_call 145; refine h1.mono ?_; rintro e w2 ⟨rfl, hc2⟩; have q0 := cell_alloc' (cell_of (hc2.obj HG.out (fun h => h)) 0) (.cells #[.pointer none, .slice none 0 0] 170); simp at q0)
    have hlt : w.heap.size < w2.heap.size := by have := hc2.size; simp at this; omega
    have hbd : BdAt (w2.alloc (.cells #[.pointer none, .slice none 0 0] 170)) (w2.alloc (.cells #[.pointer none, .slice none 0 0] 170)) w2.heap.size [] :=
      ⟨.inl ⟨Nat.le_refl _, .slice none 0 0, heap_alloc_new' _ _, World.ownsRow_nil _ _ _ _, by simp [Value.ownBlock]⟩, Chg.refl _ _, by simp⟩
    have hch3 : Chg (fun _ => False) w (w2.alloc (.cells #[.pointer none, .slice none 0 0] 170)) := (hC1.trans hc2 (fun _ _ h => h)).alloc _
    have hq1 : (w2.alloc (.cells #[.pointer none, .slice none 0 0] 170)).cell? ⟨w.heap.size, 1, none⟩ = some av := by
      have := cell_alloc' (cell_of (hc2.obj HG.out (fun h => h)) 1) (.cells #[.pointer none, .slice none 0 0] 170)
      simpa using this
    clear hc2 hC1 HG h1 q0
    generalize (w2.alloc (.cells #[.pointer none, .slice none 0 0] 170)) = W3 at *
    generalize w2.heap.size = b at *
    have hfar : ∀ W, Chg (fun k => b ≤ k) W3 W → Chg (fun _ => False) w W := fun W hW => hch3.trans hW (fun i hi h => by omega)
    have HF := hid hfar
    have HQ : Hid (∀ W, Chg (fun k => b ≤ k) W3 W → W.cell? ⟨w.heap.size, 1, none⟩ = some av) := hid (fun W hW => hW.cell hq1 (by show ¬ b ≤ w.heap.size; omega))
    have hb1 : ∀ k, ((g.srcs.take k).map srcLine).flatten.length ≤ 128 := fun k => by
      have := flatten_len ((g.srcs.take k).map srcLine) 16 (fun l hl => by obtain ⟨s, hs, rfl⟩ := List.mem_map.1 hl; exact srcLine_len s (HI.out s (List.mem_of_mem_take hs)))
      simp only [List.length_map, List.length_take] at this
      omega
    have HB1 := hid hb1
    have HLT := hid hlt
    clear hb1 hfar hch3 hq1 hlt
    go_loopw [16] (fun i wr => ∃ k : Nat, k ≤ g.srcs.length ∧ i = .int .i64 k ∧ BdAt W3 wr b ((g.srcs.take k).map srcLine).flatten) (fun i _ => g.srcs.length - (intOf i).toNat)
    case atStart => exact ⟨0, Nat.zero_le _, rfl, by simpa using hbd⟩
    case round =>
      obtain ⟨k, hk, rfl, hBd⟩ := hrel
      have HBd := hid hBd
      clear hBd hbd
      by_cases hkn : k < g.srcs.length
      · have hkn' : (k : Int) < g.srcs.length := by omega
        obtain ⟨ad, hix, hadc, hadb⟩ := (HS.out.chg (HF.out wr HBd.out.ch) (fun _ _ h => h)).ix k hkn
        have hnm := HI.out _ (List.getElem_mem hkn)
        have hln := srcLine_len _ hnm
        have hbk := HB1.out k
        have hline := line_any [wSource, g.srcs[k]] wr.heap.size 0 2 (wr.alloc (.cells #[.string (bs wSource), .string (bs g.srcs[k])] 9)) (fun i hi => by
          have := cell_of (heap_alloc_new' wr (.cells #[.string (bs wSource), .string (bs g.srcs[k])] 9)) i
          rw [Nat.zero_add, this]
          match i, hi with
          | 0, _ => rfl
          | 1, _ => rfl) (by simp) (by simp) (by simp) (by simp only [srcLine, List.length_append] at hln; omega)
        have hwr : ∀ W, Chg (fun _ => False) (wr.alloc (.cells #[.string (bs wSource), .string (bs g.srcs[k])] 9)) W → Calls Tryz.prog 101 #[.pointer (some ⟨b, 0, none⟩), .string (bs (srcLine g.srcs[k]))] W (Rets (.tuple #[.int .i64 (bs (srcLine g.srcs[k])).size, .nilIface]) (fun w' => BdAt W3 w' b (((g.srcs.take (k + 1)).map srcLine).flatten))) := by
          intro W hW
          have h1 : BdAt W3 W b ((g.srcs.take k).map srcLine).flatten := HBd.out.keep ((((Chg.refl _ wr).alloc _).trans hW (fun _ _ h => h)).mono (fun _ _ h => h.elim))
          have h2 := h1.write (srcLine g.srcs[k]) (by omega)
          have e : ((g.srcs.take (k + 1)).map srcLine).flatten = ((g.srcs.take k).map srcLine).flatten ++ srcLine g.srcs[k] := by
            rw [List.take_succ_eq_append_getElem hkn, List.map_append, List.flatten_append]; simp
          rw [e]; exact h2
        have hline' : Calls Tryz.prog 146 #[.slice (some ⟨wr.heap.size, 0, none⟩) 2 2] (wr.alloc (.cells #[.string { data := #[115, 111, 117, 114, 99, 101] }, .string (bs g.srcs[k])] 9)) (Rets (.string (bs (srcLine g.srcs[k]))) (Chg (fun _ => False) (wr.alloc (.cells #[.string { data := #[115, 111, 117, 114, 99, 101] }, .string (bs g.srcs[k])] 9)))) := hline
        have hwr' : ∀ W, Chg (fun _ => False) (wr.alloc (.cells #[.string { data := #[115, 111, 117, 114, 99, 101] }, .string (bs g.srcs[k])] 9)) W → Calls Tryz.prog 101 #[.pointer (some ⟨b, 0, none⟩), .string (bs (srcLine g.srcs[k]))] W (Rets (.tuple #[.int .i64 (bs (srcLine g.srcs[k])).size, .nilIface]) (fun w' => BdAt W3 w' b (((g.srcs.take (k + 1)).map srcLine).flatten))) := hwr
        have HW := hid hwr'
        clear hwr hwr' hline hnm hln hbk
        generalize bs (srcLine g.srcs[k]) = ln at *
        generalize bs g.srcs[k] = nm at *
        go_wp2_with (first | (go_at_call 146; refine hline'.mono ?_; rintro e w4 ⟨rfl, hc4⟩) | (go_at_call 101; refine (HW.out _ hc4).mono ?_; rintro e w5 ⟨rfl, hB5⟩))
        go_roundw
        case rel => exact ⟨k + 1, by omega, by go_num, hB5⟩
        case measure => simp [intOf]; omega
      · obtain rfl : k = g.srcs.length := by omega
        have hBd := HBd.out
        rw [List.take_length] at hBd
        have HBd2 := hid hBd
        clear hBd HBd
        have q1 := HQ.out wr HBd2.out.ch
        go_wp2_with fail
        have hT1 : (g.srcs.map srcLine).flatten.length ≤ 128 := by have := HB1.out g.srcs.length; rwa [List.take_length] at this
        have hb2 : ∀ k, ((g.acts.take k).map actLine).flatten.length ≤ 2400 := fun k => by
          have := flatten_len ((g.acts.take k).map actLine) 200 (fun l hl => by obtain ⟨s, hs, rfl⟩ := List.mem_map.1 hl; exact actLine_len s (HJ.out s (List.mem_of_mem_take hs)))
          simp only [List.length_map, List.length_take] at this
          omega
        have HB2 := hid hb2
        have HT : Hid (textL g = (g.srcs.map srcLine).flatten ++ (g.acts.map actLine).flatten) := rfl
        obtain ⟨txt, htxt⟩ : ∃ txt, txt = textL g := ⟨_, rfl⟩
        rw [← htxt] at HT
        have HX := hid htxt
        obtain ⟨wo, hwo⟩ : ∃ wo, wo = wr := ⟨_, rfl⟩
        rw [← hwo] at HBd2 q1 ⊢
        clear hwo hb2 htxt
        generalize (g.srcs.map srcLine).flatten = T1 at *
        go_loopw [28] (fun i wr => ∃ k : Nat, k ≤ g.acts.length ∧ i = .int .i64 k ∧ BdAt W3 wr b (T1 ++ ((g.acts.take k).map actLine).flatten)) (fun i _ => g.acts.length - (intOf i).toNat)
        case atStart => exact ⟨0, Nat.zero_le _, rfl, by simpa using HBd2.out⟩
        case round =>
          obtain ⟨k, hk, rfl, hBd⟩ := hrel
          have HBd := hid hBd
          clear hBd
          by_cases hkn : k < g.acts.length
          · have hkn' : (k : Int) < g.acts.length := by omega
            obtain ⟨bb, oo, hix, hlt, e0, e1, e2, hns, hw1, hw2⟩ := (HA.out.chg (HF.out wr HBd.out.ch) (fun _ _ h => h)).at k hkn
            have hak := HJ.out _ (List.getElem_mem hkn)
            have hal := actLine_len _ hak
            have hTk := HB2.out k
            have htk : ((g.acts.take (k + 1)).map actLine).flatten = ((g.acts.take k).map actLine).flatten ++ actLine g.acts[k] := by
              rw [List.take_succ_eq_append_getElem hkn, List.map_append, List.flatten_append]; simp
            have HTK := hid htk
            clear htk
            obtain ⟨a, haE⟩ : ∃ a, a = g.acts[k] := ⟨_, rfl⟩
            rw [← haE] at e0 e2 hns hw1 hw2 hak hal HTK
            clear haE
            generalize iv k = ivk at *
            obtain ⟨oa, cap, rfl⟩ : ∃ oa cap, ivk = .slice oa a.ins.length cap := by
              rcases hns.1 with ⟨rfl, h0⟩ | ⟨ad, cap, rfl, _⟩
              · have : a.ins = [] := by simpa using h0
                rw [this]; exact ⟨none, 0, rfl⟩
              · exact ⟨some ad, cap, by simp⟩
            have HN := hid hns
            have HAK := hid hak
            have HAL := hid hal
            clear hns hak hal hw1 hw2
            obtain ⟨nm, hnm⟩ : ∃ nm, nm = bs a.name := ⟨_, rfl⟩
            obtain ⟨cd, hcd⟩ : ∃ cd, cd = bs a.code := ⟨_, rfl⟩
            rw [← hnm] at e0
            rw [← hcd] at e2
            have HNM := hid hnm
            have HCD := hid hcd
            clear hnm hcd
            obtain ⟨wd, hwd⟩ : ∃ wd, wd = bs (wordL a.code) := ⟨_, rfl⟩
            have hword : ∀ W, Calls Tryz.prog 147 #[.string cd] W (Rets (.string wd) (Chg (fun _ => False) W)) := fun W => by
              rw [HCD.out, hwd]
              exact word_any a.code ((actOK_iff a).1 HAK.out).2.2.2 W
            have HWD := hid hwd
            have HJL : Hid ((joinC 32 (actWs a)).length ≤ 100000) := by
              have := HAL.out
              simp only [actLine, List.length_append] at this
              show (joinC 32 (actWs a)).length ≤ 100000
              omega
            have HWR : Hid (∀ W, Chg (fun k => wr.heap.size ≤ k) wr W → Calls Tryz.prog 101 #[.pointer (some ⟨b, 0, none⟩), .string (bs (joinC 32 (actWs a) ++ [10]))] W (Rets (.tuple #[.int .i64 (bs (joinC 32 (actWs a) ++ [10])).size, .nilIface]) (fun w' => BdAt W3 w' b (T1 ++ ((g.acts.take (k + 1)).map actLine).flatten)))) := by
              intro W hW
              have h2 := (HBd.out.keep hW).write (actLine a) (by have := HAL.out; simp only [List.length_append]; omega)
              rw [List.append_assoc, ← HTK.out] at h2
              exact h2
            clear hwd
            by_cases hin : a.ins.length = 0
            · rw [hin] at e1
              have hin0 : a.ins = [] := List.length_eq_zero_iff.1 hin
              have hown4 := owns_new (wr.alloc (.cells #[.string nm, .slice oa 0 cap, .string cd] 43)) [.string { data := #[109, 97, 107, 101] }, .string nm] 9 1 2 rfl (by unfold maxLen; omega)
              have hsz4 : (wr.alloc (.cells #[.string nm, .slice oa 0 cap, .string cd] 43)).heap.size = wr.heap.size + 1 := by simp
              rw [hsz4] at hown4
              have hlen4 : Hid (4 = (actWs a).length) := by
                show 4 = (actWs a).length
                unfold actWs; rw [hin0]; rfl
              have HWS : Hid (actWs a = [wMake, a.name, wBy, wordL a.code]) := by show actWs a = _; unfold actWs; rw [hin0]; rfl
              have hc4 : Chg (fun k => wr.heap.size ≤ k) wr ((wr.alloc (.cells #[.string nm, .slice oa 0 cap, .string cd] 43)).alloc (.cells #[.string { data := #[109, 97, 107, 101] }, .string nm] 9)) := ((Chg.refl _ wr).alloc _).alloc _
              have HC4 := hid hc4
              have HXS : Hid ([.string { data := #[109, 97, 107, 101] }, .string nm] ++ (#[.string { data := #[98, 121] }, .string wd] : Array Value).toList = (actWs a).map strV) := by
                show _ = _
                rw [HWS.out, HNM.out, HWD.out]; rfl
              clear hc4 hin0 hsz4
              go_wp2_with (first | (go_at_call 147; refine (hword _).mono ?_; rintro e w5 ⟨rfl, hc5⟩; have hown5 := hc5.owns hown4 (fun _ _ h => h)) | (refine wpList_append_new rfl _ _ 22 rfl elStr hown5 rfl _ 2 2 rfl rfl rfl (by unfold maxLen; omega) (by omega) (by decide) ?_; intro g6 cap6 w6 hown6 hch6 hg6) | (go_at_call 146; refine (line_own (actWs a) _ _ _ _ _ hlen4.out hown6 HXS.out (by have := hlen4.out; omega) HJL.out).mono ?_; rintro e w7 ⟨rfl, hc7⟩) | (go_at_call 101; refine (HWR.out _ (((HC4.out.trans hc5 (fun _ _ h => h.elim)).trans hch6 (fun i hi h => by simp [Value.ownBlock] at h; omega)).trans hc7 (fun _ _ h => h.elim))).mono ?_; rintro e w8 ⟨rfl, hB8⟩))
              go_roundw
              case rel => exact ⟨k + 1, by omega, by go_num, hB8⟩
              case measure => simp [intOf]; omega
            · have hin' : (0 : Int) < a.ins.length := by omega
              obtain ⟨ad, rfl⟩ : ∃ ad, oa = some ad := by
                rcases HN.out.1 with ⟨h1, h2⟩ | ⟨ad, cap', h1, _⟩
                · simp only [Value.slice.injEq] at h1; exact absurd h1.2.1 hin
                · simp only [Value.slice.injEq] at h1; exact ⟨ad, h1.1⟩
              have hsrc : ∀ W, Chg (fun k => wr.heap.size ≤ k) wr W → ∀ (j : Nat) u, (a.ins.map strV)[j]? = some u → W.cell? (ad.add j) = some u := by
                intro W hW j u hj
                rw [List.getElem?_map] at hj
                obtain ⟨y, hy, rfl⟩ := Option.map_eq_some_iff.1 hj
                obtain ⟨hlt, rfl⟩ := List.getElem?_eq_some_iff.1 hy
                rcases HN.out.1 with ⟨h1, h2⟩ | ⟨ad', cap', h1, h2⟩
                · simp at h1
                · simp only [Value.slice.injEq, Option.some.injEq] at h1
                  obtain ⟨rfl, _, _⟩ := h1
                  have h3 := h2 j (by simpa using hlt)
                  have h4 : wr.cell? (ad.add j) = some (.string (bs a.ins[j])) := by simpa using h3
                  exact hW.cell h4 (by have := World.block_lt_of_cell? wr _ h4; show ¬ wr.heap.size ≤ _; omega)
              have hn4 := ((actOK_iff a).1 HAK.out).2.2.1
              have hown4 := owns_new (wr.alloc (.cells #[.string nm, .slice (some ad) a.ins.length cap, .string cd] 43)) [.string { data := #[109, 97, 107, 101] }, .string nm] 9 1 2 rfl (by unfold maxLen; omega)
              have hsz4 : (wr.alloc (.cells #[.string nm, .slice (some ad) a.ins.length cap, .string cd] 43)).heap.size = wr.heap.size + 1 := by simp
              rw [hsz4] at hown4
              have c1 : ((wr.alloc (.cells #[.string nm, .slice (some ad) a.ins.length cap, .string cd] 43)).alloc (.cells #[.string { data := #[109, 97, 107, 101] }, .string nm] 9)).cell? ⟨wr.heap.size, 1, none⟩ = some (.slice (some ad) a.ins.length cap) := by
                exact cell_alloc' (cell_of (heap_alloc_new' wr (.cells #[.string nm, .slice (some ad) a.ins.length cap, .string cd] 43)) 1) (.cells #[.string { data := #[109, 97, 107, 101] }, .string nm] 9)
              have c2 : ((wr.alloc (.cells #[.string nm, .slice (some ad) a.ins.length cap, .string cd] 43)).alloc (.cells #[.string { data := #[109, 97, 107, 101] }, .string nm] 9)).cell? ⟨wr.heap.size, 2, none⟩ = some (.string cd) :=
                cell_alloc' (cell_of (heap_alloc_new' wr (.cells #[.string nm, .slice (some ad) a.ins.length cap, .string cd] 43)) 2) (.cells #[.string { data := #[109, 97, 107, 101] }, .string nm] 9)
              have HL2 : Hid (2 + 1 + a.ins.length + 2 = (actWs a).length) := by
                show 2 + 1 + a.ins.length + 2 = (actWs a).length
                unfold actWs
                rw [if_neg (fun h => hin (by rw [h]; rfl))]
                simp; omega
              have HXS2 : Hid (([.string { data := #[109, 97, 107, 101] }, .string nm] ++ (#[.string { data := #[102, 114, 111, 109] }] : Array Value).toList ++ a.ins.map strV) ++ (#[.string { data := #[98, 121] }, .string wd] : Array Value).toList = (actWs a).map strV) := by
                show _ = _
                unfold actWs
                rw [if_neg (fun h => hin (by rw [h]; rfl)), HNM.out, HWD.out]
                simp [strV]
                exact ⟨rfl, rfl, rfl⟩
              have hc4 : Chg (fun k => wr.heap.size ≤ k) wr ((wr.alloc (.cells #[.string nm, .slice (some ad) a.ins.length cap, .string cd] 43)).alloc (.cells #[.string { data := #[109, 97, 107, 101] }, .string nm] 9)) := ((Chg.refl _ wr).alloc _).alloc _
              have HC4 := hid hc4
              have HSR := hid hsrc
              have HS4 : Hid (wr.heap.size + 2 ≤ ((wr.alloc (.cells #[.string nm, .slice (some ad) a.ins.length cap, .string cd] 43)).alloc (.cells #[.string { data := #[109, 97, 107, 101] }, .string nm] 9)).heap.size) := by
                show _ ≤ _
                simp
              clear hc4 hsz4 hsrc
              go_wp2_with fail
              generalize ((wr.alloc (.cells #[.string nm, .slice (some ad) a.ins.length cap, .string cd] 43)).alloc (.cells #[.string { data := #[109, 97, 107, 101] }, .string nm] 9)) = W4 at *
              have c1a := cell_alloc' c1 (.cells #[.string { data := #[102, 114, 111, 109] }] 9)
              have c1b : (W4.alloc (.cells #[.string { data := #[102, 114, 111, 109] }] 9)).drew.cell? ⟨wr.heap.size, 1, none⟩ = some (.slice (some ad) a.ins.length cap) := c1a
              have c1c : W4.drew.cell? ⟨wr.heap.size, 1, none⟩ = some (.slice (some ad) a.ins.length cap) := c1
              go_region_law (first
                | (refine step_append_new rfl _ _ 22 rfl elStr hown4 rfl _ 1 1 rfl rfl rfl (by unfold maxLen; omega) (by omega) (by decide) ?_
                   intro g1 cap1 w1 hown1 hch1 hg1
                   have d1 := hch1.cell c1 (by simp [Value.ownBlock])
                   have hW1 := HC4.out.trans hch1 (fun i hi h => by simp [Value.ownBlock] at h; omega)
                   have hge1 : wr.heap.size ≤ g1 := by rcases hg1 with h | h
                                                       · simp [Value.ownBlock] at h; omega
                                                       · have := HC4.out.size; omega)
                | (refine step_append_src rfl _ _ 22 rfl elStr hown1 rfl ad a.ins.length cap (a.ins.map strV) rfl (by simp) (HSR.out _ hW1) (by intro u hu; obtain ⟨y, _, rfl⟩ := List.mem_map.1 hu; rfl) (by unfold maxLen; omega) (by omega) (by omega) ?_
                   intro g2 cap2 w2 hown2 hch2 hg2
                   have d2 := hch2.cell (hch1.cell c2 (by simp [Value.ownBlock])) (by
                     have hne : ¬ g1 = wr.heap.size := by
                       rcases hg1 with h | h
                       · simp [Value.ownBlock] at h; omega
                       · have := HS4.out; omega
                     simpa [Value.ownBlock] using hne)
                   have hW2 := hW1.trans hch2 (fun i hi h => by simp [Value.ownBlock] at h; subst h; exact hge1)
                   have hge2 : wr.heap.size ≤ g2 := by rcases hg2 with h | h
                                                       · simp [Value.ownBlock] at h; omega
                                                       · have := hW1.size; omega))
              all_goals go_wp2_with (first | (go_at_call 147; refine (hword _).mono ?_; rintro e w5 ⟨rfl, hc5⟩; have hown5 := hc5.owns hown2 (fun _ _ h => h)) | (refine wpList_append_new rfl _ _ 22 rfl elStr hown5 rfl _ 2 2 rfl rfl rfl (by unfold maxLen; omega) (by omega) (by decide) ?_; intro g6 cap6 w6 hown6 hch6 hg6) | (go_at_call 146; refine (line_own (actWs a) _ _ _ _ _ HL2.out hown6 HXS2.out (by have := HL2.out; omega) HJL.out).mono ?_; rintro e w7 ⟨rfl, hc7⟩) | (go_at_call 101; refine (HWR.out _ (((hW2.trans hc5 (fun _ _ h => h.elim)).trans hch6 (fun i hi h => by simp [Value.ownBlock] at h; subst h; have := hge2; show wr.heap.size ≤ _; omega)).trans hc7 (fun _ _ h => h.elim))).mono ?_; rintro e w8 ⟨rfl, hB8⟩))
              all_goals go_roundw
              all_goals first
                | exact ⟨k + 1, by omega, by go_num, hB8⟩
                | (simp [intOf]; omega)
          · obtain rfl : k = g.acts.length := by omega
            have hBd := HBd.out
            rw [List.take_length, ← HT.out] at hBd
            have hst := Tryz.Builder_String_any b b txt wr hBd.bd (Nat.le_of_lt hBd.lt)
            have HBd3 := hid hBd
            clear hBd HBd HBd2
            go_wp2_with (go_at_call 103; refine hst.mono ?_; rintro e w9 ⟨rfl, hb9⟩)
            go_ret2
            have hf := HF.out w9 (HBd3.out.ch.trans (Chg.of_below hb9) (fun _ _ h => h))
            refine ⟨?_, hf⟩
            rw [HX.out]
            rfl
end Go.Proofs.YthglfmacjoecgaaGreatDoor
