/- mill's stack walked: push, pop. -/
import Derived.Test.YtegappcdmaodjaaDoorMiA
namespace Go.Proofs.YtegappcdmaodjaaDoor
open Go.RowKit

theorem elStr : ElT Tryd.prog 22 9 1 16 := .mk' (z := .string ByteArray.empty) Tryd.underlying22 (by kernel_rfl) rfl (by decide) rfl

/-- The stack in a block's first cell: of these blobs. -/
structure StackAt (w : World) (b : Nat) (v : Value) (cs : Array Value) (T : TypeId) (l : List ByteArray) : Prop where
  heap : w.heap[b]? = some (.cells cs T (0, 0))
  fst : cs[0]? = some v
  own : w.ownsRow 0 9 1 v l.length (l.map Value.string)
  ne : v.ownBlock ≠ some b

/-- What a push makes of a stack. -/
def pushR : List ByteArray → List ByteArray → Nat × List ByteArray
  | l, [] => (0, l)
  | l, s :: ss => if 8 ≤ l.length then (31, l) else if 512 < s.size then (33, l) else pushR (l ++ [s]) ss

theorem pushR_cons (l : List ByteArray) (s : ByteArray) (ss : List ByteArray) : pushR l (s :: ss) = if 8 ≤ l.length then (31, l) else if 512 < s.size then (33, l) else pushR (l ++ [s]) ss := rfl
theorem pushR_nil (l : List ByteArray) : pushR l [] = (0, l) := rfl

/-- Behind a push or pop the stack is this one. -/
def StackTo (w : World) (b : Nat) (v : Value) (cs : Array Value) (T : TypeId) (l : List ByteArray) (w' : World) : Prop :=
  ∃ v', StackAt w' b v' (cs.setIfInBounds 0 v') T l ∧ (∀ k, v'.ownBlock = some k → v.ownBlock = some k ∨ w.heap.size ≤ k) ∧ Chg (fun k => k = b ∨ v.ownBlock = some k) w w'

theorem StackAt.to {w : World} {b : Nat} {v : Value} {cs : Array Value} {T : TypeId} {l : List ByteArray} (h : StackAt w b v cs T l) : StackTo w b v cs T l w := by
  refine ⟨v, ?_, fun k hk => .inl hk, Chg.refl _ w⟩
  have : cs.setIfInBounds 0 v = cs := by
    have h0 := h.fst
    apply Array.ext_getElem?
    intro i
    rw [Array.getElem?_setIfInBounds]
    split
    · subst_vars; split <;> simp_all
    · rfl
  rw [this]; exact h

/-- A blob put behind. -/
theorem stack_put {w wr w1 : World} {b : Nat} {v v1 : Value} {cs : Array Value} {T : TypeId} {l l' : List ByteArray} {g1 n cap : Nat}
    (hch : Chg (fun k => k = b ∨ v.ownBlock = some k) w wr) (hv1 : ∀ k, v1.ownBlock = some k → v.ownBlock = some k ∨ w.heap.size ≤ k)
    (hS : StackAt wr b v1 (cs.setIfInBounds 0 v1) T l) (hb : w1.heap[b]? = some (.cells (cs.setIfInBounds 0 v1) T (0, 0))) (hchg : Chg (fun k => v1.ownBlock = some k) wr w1) (hg1 : v1.ownBlock = some g1 ∨ wr.heap.size ≤ g1)
    (hown : w1.ownsRow 0 9 1 (.slice (some ⟨g1, 0, none⟩) n cap) l'.length (l'.map Value.string)) :
    StackTo w b v cs T l' (w1.setCell ⟨b, 0, none⟩ (.slice (some ⟨g1, 0, none⟩) n cap)) := by
  have hbw := heap_lt hS.heap
  have hgb : g1 ≠ b := by
    rcases hg1 with h | h
    · intro e; subst e; exact hS.ne h
    · omega
  have hsz : 0 < cs.size := by
    have h2 := hS.fst
    rcases Nat.eq_zero_or_pos cs.size with h | h
    · rw [Array.eq_empty_of_size_eq_zero h] at h2
      simp at h2
    · exact h
  refine ⟨.slice (some ⟨g1, 0, none⟩) n cap, ⟨?_, ?_, ?_, ?_⟩, ?_, ?_⟩
  · rw [heap_set_same hb 0, Array.setIfInBounds_setIfInBounds]
  · simp [hsz]
  · exact ownsRow_setCell_other hown (by simpa [Value.ownBlock] using hgb) _
  · simpa [Value.ownBlock] using hgb
  · intro k hk
    simp [Value.ownBlock] at hk
    subst hk
    rcases hg1 with h | h
    · exact hv1 _ h
    · exact .inr (Nat.le_trans hch.size h)
  · refine (hch.trans hchg ?_).setCell (fun _ => .inl rfl) _
    intro i hi h
    rcases hv1 i h with h | h
    · exact .inr h
    · omega

set_option maxRecDepth 100000 in
set_option maxHeartbeats 1000000 in
theorem push_any (w : World) (b : Nat) (v : Value) (cs : Array Value) (T : TypeId) (l : List ByteArray) (hS : StackAt w b v cs T l) (g n c : Nat) (ss : List ByteArray) (hn : ss.length = n) (hn2 : n ≤ 100)
    (hc : ∀ i (h : i < ss.length), w.cell? ⟨g, i, none⟩ = some (.string ss[i])) (hg : g ≠ b) (hgv : v.ownBlock ≠ some g) (hsz : ∀ s ∈ ss, s.size ≤ maxLen) (_ : l.length ≤ 1000) :
    Calls Tryd.prog 32 #[.pointer (some ⟨b, 0, none⟩), .slice (some ⟨g, 0, none⟩) n c] w (Rets (.int .i64 (pushR l ss).1) (StackTo w b v cs T (pushR l ss).2)) := by
  subst hn
  go_enter Tryd.func32, Tryd.ntmps32
  go_wp2_with fail
  go_loopw [9] (fun i wr => ∃ k : Nat, ∃ l', k ≤ ss.length ∧ i = .int .i64 k ∧ StackTo w b v cs T l' wr ∧ pushR l ss = pushR l' (ss.drop k) ∧ l'.length ≤ l.length + k) (fun i _ => ss.length - (intOf i).toNat)
  case atStart => exact ⟨0, l, Nat.zero_le _, rfl, hS.to, rfl, by omega⟩
  case round =>
    obtain ⟨k, l', hk, rfl, hST, hp, hll⟩ := hrel
    obtain ⟨v1, ⟨h1, h2, h3, h4⟩, hv1, hch⟩ := hST
    have hcell : wr.cell? ⟨b, 0, none⟩ = some v1 := (cell_of h1 0).trans h2
    have hfz := frozen_of h1 0
    have hlen := fun w ty => run_len_own (P := Tryd.prog) Tryd.underlying22 h3 w ty
    by_cases hkn : k < ss.length
    · have hkn' : (k : Int) < ss.length := by omega
      have hkc : wr.cell? ⟨g, k, none⟩ = some (.string ss[k]) := hch.cell (hc k hkn) (fun h => h.elim (fun e => hg e) (fun e => hgv e))
      have hsk := hsz _ (List.getElem_mem hkn)
      unfold maxLen at hsk
      rw [List.drop_eq_getElem_cons hkn] at hp
      have HP := hid hp
      have HC := hid hch
      have HV := hid hv1
      clear hp hch hv1
      by_cases h8 : 8 ≤ l'.length
      · have h8' : 8 ≤ (l'.length : Int) := by omega
        go_wp2_with fail
        go_ret
        rw [show pushR l ss = (31, l') from by rw [HP.out, pushR_cons, if_pos h8]]
        exact ⟨rfl, v1, ⟨h1, h2, h3, h4⟩, HV.out, HC.out⟩
      · have h8' : (l'.length : Int) < 8 := by omega
        by_cases h5 : 512 < ss[k].size
        · have h5' : 512 < (ss[k].size : Int) := by omega
          go_wp2_with fail
          go_ret
          rw [show pushR l ss = (33, l') from by rw [HP.out, pushR_cons, if_neg h8, if_pos h5]]
          exact ⟨rfl, v1, ⟨h1, h2, h3, h4⟩, HV.out, HC.out⟩
        · have h5' : (ss[k].size : Int) ≤ 512 := by omega
          have hown := h3
          have h4' := h4
          go_wp2_with (at_builtin; go_loud (refine wpList_append_new rfl _ _ 22 rfl elStr hown rfl _ 1 1 rfl rfl rfl (by unfold maxLen; omega) (by omega) (by decide) ?_; intro g1 cap w1 hown1 hchg hg1; have hblk1 := hchg.obj h1 h4'; have c1 := (cell_of hblk1 0).trans h2; have f1 := frozen_of hblk1 0))
          go_roundw
          case rel =>
            refine ⟨k + 1, l' ++ [ss[k]], by omega, by go_num, stack_put HC.out HV.out ⟨h1, h2, h3, h4⟩ hblk1 hchg hg1 ?_, ?_, by simp; omega⟩
            · simpa using hown1
            · rw [HP.out, pushR_cons, if_neg h8, if_neg (by omega)]
          case measure => simp [intOf]; omega
    · obtain rfl : k = ss.length := by omega
      go_wp2_with fail
      go_ret
      rw [show pushR l ss = (0, l') from by rw [hp, List.drop_length, pushR_nil]]
      exact ⟨rfl, v1, ⟨h1, h2, h3, h4⟩, hv1, hch⟩

/-- Behind a pop the stack is this one; its row lies where it lay. -/
def PopTo (w : World) (b : Nat) (v : Value) (cs : Array Value) (T : TypeId) (l : List ByteArray) (w' : World) : Prop :=
  ∃ v', StackAt w' b v' (cs.setIfInBounds 0 v') T l ∧ (∀ k, v'.ownBlock = some k → v.ownBlock = some k) ∧ Chg (fun k => k = b ∨ v.ownBlock = some k) w w'
theorem PopTo.to {w : World} {b : Nat} {v : Value} {cs : Array Value} {T : TypeId} {l : List ByteArray} {w' : World} (h : PopTo w b v cs T l w') : StackTo w b v cs T l w' := by
  obtain ⟨v', h1, h2, h3⟩ := h
  exact ⟨v', h1, fun k hk => .inl (h2 k hk), h3⟩

/-- A stack's row, shorter. -/
theorem stack_cut {w : World} {b : Nat} {cs : Array Value} {T : TypeId} {l : List ByteArray} {g n cap : Nat} (hS : StackAt w b (.slice (some ⟨g, 0, none⟩) n cap) cs T l) {w1 : World} (hb : Below w.heap.size w w1) {a : Nat} (ha : a ≤ l.length) :
    PopTo w b (.slice (some ⟨g, 0, none⟩) n cap) cs T (l.take a) (w1.setCell ⟨b, 0, none⟩ (.slice (some ⟨g, 0, none⟩) a cap)) := by
  have hbw := heap_lt hS.heap
  have hch : Chg (fun k => w.heap.size ≤ k) w w1 := .of_below hb
  have h1 := hch.obj hS.heap (by omega)
  have hgb : g ≠ b := by have := hS.ne; simpa [Value.ownBlock] using this
  have hsz : 0 < cs.size := by
    have h2 := hS.fst
    rcases Nat.eq_zero_or_pos cs.size with h | h
    · rw [Array.eq_empty_of_size_eq_zero h] at h2
      simp at h2
    · exact h
  obtain ⟨cur, hg, hnc, hcm, hcs, htake⟩ := ownsRow_heap (n := l.length) (by have h := hS.own; have e := (by rcases h.2 with ⟨h', _⟩ | ⟨_, _, _, h', _⟩ <;> simp at h' <;> exact h'.2.1 : n = l.length); subst e; exact h)
  have hgw := heap_lt hg
  refine ⟨.slice (some ⟨g, 0, none⟩) a cap, ⟨?_, ?_, ?_, ?_⟩, ?_, ?_⟩
  · rw [heap_set_same h1 0]
  · simp [hsz]
  · refine ownsRow_setCell_other ?_ (by simpa [Value.ownBlock] using hgb) _
    have hl : (l.take a).length = a := by simp; omega
    rw [hl]
    refine ⟨by simp; omega, .inr ⟨g, cap, cur, rfl, Nat.zero_le _, hch.obj hg (by omega), by omega, hcm, hcs, ?_⟩⟩
    rw [List.map_take, ← htake, List.take_take]
    congr 1
    omega
  · simpa [Value.ownBlock] using hgb
  · intro k hk; exact hk
  · exact (hch.mono (fun i hi h => by omega)).setCell (fun _ => .inl rfl) _

theorem stack_nil {w w' : World} {b : Nat} {cs : Array Value} {T : TypeId} {l : List ByteArray} (hS : StackAt w b (.slice none 0 0) cs T l) (hw : w' = w.setCell ⟨b, 0, none⟩ (.slice none 0 0)) : PopTo w b (.slice none 0 0) cs T l w' := by
  subst hw
  have hsz : 0 < cs.size := by
    have h2 := hS.fst
    rcases Nat.eq_zero_or_pos cs.size with h | h
    · rw [Array.eq_empty_of_size_eq_zero h] at h2
      simp at h2
    · exact h
  refine ⟨.slice none 0 0, ⟨?_, ?_, ?_, ?_⟩, ?_, ?_⟩
  · rw [heap_set_same hS.heap 0]
  · simp [hsz]
  · exact ownsRow_setCell_other hS.own (by simp [Value.ownBlock]) _
  · simp [Value.ownBlock]
  · intro k hk; exact hk
  · exact (Chg.refl _ w).setCell (fun _ => .inl rfl) _

set_option maxHeartbeats 1000000 in
theorem pop_less (w : World) (b : Nat) (v : Value) (cs : Array Value) (T : TypeId) (l : List ByteArray) (hS : StackAt w b v cs T l) (n : Nat) (hn : l.length < n) (hn2 : n ≤ 2) :
    Calls Tryd.prog 28 #[.pointer (some ⟨b, 0, none⟩), .int .i64 n] w (Rets (.tuple #[.slice none 0 0, .bool false]) (fun w' => w = w')) := by
  obtain ⟨h1, h2, h3, h4⟩ := hS
  have hcell : w.cell? ⟨b, 0, none⟩ = some v := (cell_of h1 0).trans h2
  have hlen := fun w ty => run_len_own (P := Tryd.prog) Tryd.underlying22 h3 w ty
  have hn' : (l.length : Int) - n < 0 := by omega
  go_enter Tryd.func28, Tryd.ntmps28
  go_wp2
  all_goals go_ret2
  all_goals exact ⟨rfl, rfl⟩

set_option maxRecDepth 100000 in
set_option maxHeartbeats 1000000 in
theorem pop_ok (w : World) (b : Nat) (v : Value) (cs : Array Value) (T : TypeId) (l : List ByteArray) (hS : StackAt w b v cs T l) (n : Nat) (hn : n ≤ l.length) (hn2 : n ≤ 2) (h8 : l.length ≤ 1000) :
    Calls Tryd.prog 28 #[.pointer (some ⟨b, 0, none⟩), .int .i64 n] w (fun e w' => ∃ lv, e = .returned (.tuple #[lv, .bool true]) ∧
      PopTo w b v cs T (l.take (l.length - n)) w' ∧ w'.ownsRow w.heap.size 9 1 lv n ((l.drop (l.length - n)).map Value.string)) := by
  have hS' := hS
  obtain ⟨h1, h2, h3, h4⟩ := hS
  have hcell : w.cell? ⟨b, 0, none⟩ = some v := (cell_of h1 0).trans h2
  have hfz := frozen_of h1 0
  have hlen := fun w ty => run_len_own (P := Tryd.prog) Tryd.underlying22 h3 w ty
  have hn' : (0 : Int) ≤ (l.length : Int) - n := by omega
  have hbw := heap_lt h1
  rcases h3.2 with ⟨rfl, hz⟩ | ⟨g, cap, cur, rfl, hb', hg, hnc, hcm, hcs, htake⟩
  · have hl0 : l = [] := List.eq_nil_of_length_eq_zero hz
    subst hl0
    obtain rfl : n = 0 := by simpa using hn
    go_enter Tryd.func28, Tryd.ntmps28
    go_wp2_with (go_at_call 43; refine (Tryd.slices_Clone_string_nil _ _ _).mono ?_; rintro e w' ⟨rfl, rfl⟩)
    go_ret2
    refine ⟨_, rfl, stack_nil hS' rfl, World.ownsRow_nil _ _ _ _⟩
  · have hnc' : (l.length : Int) ≤ cap := by omega
    have hg' : g ≠ b := by simpa [Value.ownBlock] using h4
    by_cases hn0 : n = 0
    · subst hn0
      have ht : l.take (l.length - 0) = l := by simp
      have hd : l.drop (l.length - 0) = [] := by simp
      rw [ht, hd]
      have HT := hid htake
      have HC := hid hcs
      clear htake hcs ht hd
      have fin : ∀ (ad : Addr) (c : Nat) (K : Ending → World → Prop), (∀ lv w1, PopTo w b (.slice (some ⟨g, 0, none⟩) l.length cap) cs T l (w1.setCell ⟨b, 0, none⟩ (.slice (some ⟨g, 0, none⟩) l.length cap)) →
          (w1.setCell ⟨b, 0, none⟩ (.slice (some ⟨g, 0, none⟩) l.length cap)).ownsRow w.heap.size 9 1 lv 0 [] → w1.cell? ⟨b, 0, none⟩ = some (.slice (some ⟨g, 0, none⟩) l.length cap) → w1.frozen? ⟨b, 0, none⟩ = false → K (.returned lv) w1) →
          Calls Tryd.prog 43 #[.slice (some ad) 0 c] w K := by
        intro ad c K h
        refine (Tryd.slices_Clone_string_zero ad c w).mono ?_
        rintro e w1 ⟨lv, rfl, hlv, _, hbel⟩
        have hh := (Chg.of_below hbel).obj h1 (by omega)
        refine h lv w1 ?_ (ownsRow_setCell_below hlv hbw _) ((cell_of hh 0).trans h2) (frozen_of hh 0)
        have := stack_cut hS' hbel (a := l.length) (Nat.le_refl _)
        rwa [List.take_length] at this
      clear hS' hg hb' hbw
      by_cases hcap : cap = l.length
      · subst hcap
        go_enter Tryd.func28, Tryd.ntmps28
        go_wp2_with (go_at_call 43; refine fin _ _ _ ?_; intro lv w1 k1 k2 c1 f1)
        go_ret2
        exact ⟨_, rfl, k1, k2⟩
      · go_enter Tryd.func28, Tryd.ntmps28
        go_wp2_with (go_at_call 43; refine fin _ _ _ ?_; intro lv w1 k1 k2 c1 f1)
        go_ret2
        exact ⟨_, rfl, k1, k2⟩
    · obtain ⟨m, hm⟩ : ∃ m, l.length = m + n := ⟨l.length - n, by omega⟩
      have he : (l.length : Int) - (n : Int) = (m : Int) := by omega
      have hm0 : (0 : Int) ≤ (m : Int) := by omega
      have hml : (m : Int) ≤ (l.length : Int) := by omega
      have hmc : (m : Int) ≤ (cap : Int) := by omega
      have hcm' : ¬ cap = m := by omega
      have fin : ∀ (k c : Nat) (K : Ending → World → Prop), k = n → (∀ lv w1, PopTo w b (.slice (some ⟨g, 0, none⟩) l.length cap) cs T (l.take (l.length - n)) (w1.setCell ⟨b, 0, none⟩ (.slice (some ⟨g, 0, none⟩) m cap)) →
          (w1.setCell ⟨b, 0, none⟩ (.slice (some ⟨g, 0, none⟩) m cap)).ownsRow w.heap.size 9 1 lv n ((l.drop (l.length - n)).map Value.string) → w1.cell? ⟨b, 0, none⟩ = some (.slice (some ⟨g, 0, none⟩) l.length cap) → w1.frozen? ⟨b, 0, none⟩ = false → K (.returned lv) w1) →
          Calls Tryd.prog 43 #[.slice (some ⟨g, m, none⟩) k c] w K := by
        intro k c K hk h
        subst hk
        have hlm : l.length - k = m := by omega
        rw [hlm] at h
        refine (Tryd.slices_Clone_string g m k c (l.drop m) w (by simp; omega) (by omega) ?_).mono ?_
        · intro j hj
          rw [List.length_drop] at hj
          have := h3.cellAt (m + j) (by omega)
          rw [this]
          simp [List.getD_eq_getElem?_getD, show m + j < l.length from by omega]
        · rintro e w1 ⟨lv, rfl, hlv, _, hbel⟩
          have hh := (Chg.of_below hbel).obj h1 (by omega)
          rw [List.take_of_length_le (by simp; omega)] at hlv
          exact h lv w1 (stack_cut hS' hbel (by omega)) (ownsRow_setCell_below hlv hbw _) ((cell_of hh 0).trans h2) (frozen_of hh 0)
      have hx : l.length - m = n := by omega
      clear hS' hg hb' hbw
      have HT := hid htake
      have HC := hid hcs
      clear htake hcs
      go_enter Tryd.func28, Tryd.ntmps28
      go_wp2_with (go_at_call 43; refine fin _ _ _ (by omega) ?_; intro lv w1 k1 k2 c1 f1)
      go_ret2
      exact ⟨_, rfl, k1, k2⟩
end Go.Proofs.YtegappcdmaodjaaDoor
