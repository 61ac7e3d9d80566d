/- Texts of the proof, one behind the other: mill's stack walked: push, pop; slices.Reverse at []byte, slices.ContainsFunc at []string: the kit's contracts laid here; mill.turned, isWide over inputs walked; mill's machine: its block; push and pop said of it; end walked; mill.step walked, a theorem a letter (printed by mk.py); mill.step walked, a theorem a letter (printed by mk.py); mill.step walked, a theorem a letter (printed by mk.py); mill.step walked, a theorem a letter (printed by mk.py); mill.step walked, a theorem a letter (printed by mk.py); mill.step walked, all letters joined: what a step leaves is stepRM; (*stamp.Press).Add walked. -/
import Derived.Test.YthglfmacjoecgaaGreatDoorMx02
import Derived.Shelf.SlicesE.Reverse
import Derived.Shelf.SlicesE.IndexFunc
import Derived.Test.YthglfmacjoecgaaGreatDoorProg
import Derived.Test.YthglfmacjoecgaaGreatDoorMx01
import Derived.Lib.SlBytesRow
import Derived.Deep.RegionHeld3
import Derived.StillTailTactics
namespace Go.Proofs.YthglfmacjoecgaaGreatDoor
open Go.RowKit

theorem elStrM : ElT Tryz.prog 22 9 1 16 := .mk' (z := .string ByteArray.empty) Tryz.underlying22 (by kernel_rfl) rfl (by decide) rfl

/-- The stack in a block's first cell: of these blobs. -/
structure StackAt (w : World) (b : Nat) (v : Value) (cs : Array Value) (T : TypeId) (l : List ByteArray) : Prop where
  heap : w.heap[b]? = some (.cells cs T (0, 0))
  fst : cs[0]? = some v
  own : w.ownsRow 0 9 1 v l.length (l.map Value.string)
  ne : v.ownBlock ≠ some b

/-- What a push makes of a stack. -/
def pushR : List ByteArray → List ByteArray → Nat × List ByteArray
  | l, [] => (0, l)
  | l, s :: ss => if 8 ≤ l.length then (31, l) else if 512 < s.size then (33, l) else pushR (l ++ [s]) ss

theorem pushR_cons (l : List ByteArray) (s : ByteArray) (ss : List ByteArray) : pushR l (s :: ss) = if 8 ≤ l.length then (31, l) else if 512 < s.size then (33, l) else pushR (l ++ [s]) ss := rfl
theorem pushR_nil (l : List ByteArray) : pushR l [] = (0, l) := rfl

/-- Behind a push or pop the stack is this one. -/
def StackTo (w : World) (b : Nat) (v : Value) (cs : Array Value) (T : TypeId) (l : List ByteArray) (w' : World) : Prop :=
  ∃ v', StackAt w' b v' (cs.setIfInBounds 0 v') T l ∧ (∀ k, v'.ownBlock = some k → v.ownBlock = some k ∨ w.heap.size ≤ k) ∧ Chg (fun k => k = b ∨ v.ownBlock = some k) w w'

theorem StackAt.to {w : World} {b : Nat} {v : Value} {cs : Array Value} {T : TypeId} {l : List ByteArray} (h : StackAt w b v cs T l) : StackTo w b v cs T l w := by
  refine ⟨v, ?_, fun k hk => .inl hk, Chg.refl _ w⟩
  have : cs.setIfInBounds 0 v = cs := by
    have h0 := h.fst
    apply Array.ext_getElem?
    intro i
    rw [Array.getElem?_setIfInBounds]
    split
    · subst_vars; split <;> simp_all
    · rfl
  rw [this]; exact h

/-- A blob put behind. -/
theorem stack_put {w wr w1 : World} {b : Nat} {v v1 : Value} {cs : Array Value} {T : TypeId} {l l' : List ByteArray} {g1 n cap : Nat}
    (hch : Chg (fun k => k = b ∨ v.ownBlock = some k) w wr) (hv1 : ∀ k, v1.ownBlock = some k → v.ownBlock = some k ∨ w.heap.size ≤ k)
    (hS : StackAt wr b v1 (cs.setIfInBounds 0 v1) T l) (hb : w1.heap[b]? = some (.cells (cs.setIfInBounds 0 v1) T (0, 0))) (hchg : Chg (fun k => v1.ownBlock = some k) wr w1) (hg1 : v1.ownBlock = some g1 ∨ wr.heap.size ≤ g1)
    (hown : w1.ownsRow 0 9 1 (.slice (some ⟨g1, 0, none⟩) n cap) l'.length (l'.map Value.string)) :
    StackTo w b v cs T l' (w1.setCell ⟨b, 0, none⟩ (.slice (some ⟨g1, 0, none⟩) n cap)) := by
  have hbw := heap_lt hS.heap
  have hgb : g1 ≠ b := by
    rcases hg1 with h | h
    · intro e; subst e; exact hS.ne h
    · omega
  have hsz : 0 < cs.size := by
    have h2 := hS.fst
    rcases Nat.eq_zero_or_pos cs.size with h | h
    · rw [Array.eq_empty_of_size_eq_zero h] at h2
      simp at h2
    · exact h
  refine ⟨.slice (some ⟨g1, 0, none⟩) n cap, ⟨?_, ?_, ?_, ?_⟩, ?_, ?_⟩
  · rw [heap_set_same hb 0, Array.setIfInBounds_setIfInBounds]
  · simp [hsz]
  · exact ownsRow_setCell_other hown (by simpa [Value.ownBlock] using hgb) _
  · simpa [Value.ownBlock] using hgb
  · intro k hk
    simp [Value.ownBlock] at hk
    subst hk
    rcases hg1 with h | h
    · exact hv1 _ h
    · exact .inr (Nat.le_trans hch.size h)
  · refine (hch.trans hchg ?_).setCell (fun _ => .inl rfl) _
    intro i hi h
    rcases hv1 i h with h | h
    · exact .inr h
    · omega

set_option maxRecDepth 100000 in
set_option maxHeartbeats 1000000 in
theorem push_any (w : World) (b : Nat) (v : Value) (cs : Array Value) (T : TypeId) (l : List ByteArray) (hS : StackAt w b v cs T l) (g n c : Nat) (ss : List ByteArray) (hn : ss.length = n) (hn2 : n ≤ 100)
    (hc : ∀ i (h : i < ss.length), w.cell? ⟨g, i, none⟩ = some (.string ss[i])) (hg : g ≠ b) (hgv : v.ownBlock ≠ some g) (hsz : ∀ s ∈ ss, s.size ≤ maxLen) (_ : l.length ≤ 1000) :
    Calls Tryz.prog 97 #[.pointer (some ⟨b, 0, none⟩), .slice (some ⟨g, 0, none⟩) n c] w (Rets (.int .i64 (pushR l ss).1) (StackTo w b v cs T (pushR l ss).2)) := by
  subst hn
  go_enter Tryz.func97, Tryz.ntmps97
  go_wp2_with fail
  go_loopw [9] (fun i wr => ∃ k : Nat, ∃ l', k ≤ ss.length ∧ i = .int .i64 k ∧ StackTo w b v cs T l' wr ∧ pushR l ss = pushR l' (ss.drop k) ∧ l'.length ≤ l.length + k) (fun i _ => ss.length - (intOf i).toNat)
  case atStart => exact ⟨0, l, Nat.zero_le _, rfl, hS.to, rfl, by omega⟩
  case round =>
    obtain ⟨k, l', hk, rfl, hST, hp, hll⟩ := hrel
    obtain ⟨v1, ⟨h1, h2, h3, h4⟩, hv1, hch⟩ := hST
    have hcell : wr.cell? ⟨b, 0, none⟩ = some v1 := (cell_of h1 0).trans h2
    have hfz := frozen_of h1 0
    have hlen := fun w ty => run_len_own (P := Tryz.prog) Tryz.underlying22 h3 w ty
    by_cases hkn : k < ss.length
    · have hkn' : (k : Int) < ss.length := by omega
      have hkc : wr.cell? ⟨g, k, none⟩ = some (.string ss[k]) := hch.cell (hc k hkn) (fun h => h.elim (fun e => hg e) (fun e => hgv e))
      have hsk := hsz _ (List.getElem_mem hkn)
      unfold maxLen at hsk
      rw [List.drop_eq_getElem_cons hkn] at hp
      have HP := hid hp
      have HC := hid hch
      have HV := hid hv1
      clear hp hch hv1
      by_cases h8 : 8 ≤ l'.length
      · have h8' : 8 ≤ (l'.length : Int) := by omega
        go_wp2_with fail
        go_ret
        rw [show pushR l ss = (31, l') from by rw [HP.out, pushR_cons, if_pos h8]]
        exact ⟨rfl, v1, ⟨h1, h2, h3, h4⟩, HV.out, HC.out⟩
      · have h8' : (l'.length : Int) < 8 := by omega
        by_cases h5 : 512 < ss[k].size
        · have h5' : 512 < (ss[k].size : Int) := by omega
          go_wp2_with fail
          go_ret
          rw [show pushR l ss = (33, l') from by rw [HP.out, pushR_cons, if_neg h8, if_pos h5]]
          exact ⟨rfl, v1, ⟨h1, h2, h3, h4⟩, HV.out, HC.out⟩
        · have h5' : (ss[k].size : Int) ≤ 512 := by omega
          have hown := h3
          have h4' := h4
          go_wp2_with (at_builtin; go_loud (refine wpList_append_new rfl _ _ 22 rfl elStrM hown rfl _ 1 1 rfl rfl rfl (by unfold maxLen; omega) (by omega) (by decide) ?_; intro g1 cap w1 hown1 hchg hg1; have hblk1 := hchg.obj h1 h4'; have c1 := (cell_of hblk1 0).trans h2; have f1 := frozen_of hblk1 0))
          go_roundw
          case rel =>
            refine ⟨k + 1, l' ++ [ss[k]], by omega, by go_num, stack_put HC.out HV.out ⟨h1, h2, h3, h4⟩ hblk1 hchg hg1 ?_, ?_, by simp; omega⟩
            · simpa using hown1
            · rw [HP.out, pushR_cons, if_neg h8, if_neg (by omega)]
          case measure => simp [intOf]; omega
    · obtain rfl : k = ss.length := by omega
      go_wp2_with fail
      go_ret
      rw [show pushR l ss = (0, l') from by rw [hp, List.drop_length, pushR_nil]]
      exact ⟨rfl, v1, ⟨h1, h2, h3, h4⟩, hv1, hch⟩

/-- Behind a pop the stack is this one; its row lies where it lay. -/
def PopTo (w : World) (b : Nat) (v : Value) (cs : Array Value) (T : TypeId) (l : List ByteArray) (w' : World) : Prop :=
  ∃ v', StackAt w' b v' (cs.setIfInBounds 0 v') T l ∧ (∀ k, v'.ownBlock = some k → v.ownBlock = some k) ∧ Chg (fun k => k = b ∨ v.ownBlock = some k) w w'
theorem PopTo.to {w : World} {b : Nat} {v : Value} {cs : Array Value} {T : TypeId} {l : List ByteArray} {w' : World} (h : PopTo w b v cs T l w') : StackTo w b v cs T l w' := by
  obtain ⟨v', h1, h2, h3⟩ := h
  exact ⟨v', h1, fun k hk => .inl (h2 k hk), h3⟩

/-- A stack's row, shorter. -/
theorem stack_cut {w : World} {b : Nat} {cs : Array Value} {T : TypeId} {l : List ByteArray} {g n cap : Nat} (hS : StackAt w b (.slice (some ⟨g, 0, none⟩) n cap) cs T l) {w1 : World} (hb : Below w.heap.size w w1) {a : Nat} (ha : a ≤ l.length) :
    PopTo w b (.slice (some ⟨g, 0, none⟩) n cap) cs T (l.take a) (w1.setCell ⟨b, 0, none⟩ (.slice (some ⟨g, 0, none⟩) a cap)) := by
  have hbw := heap_lt hS.heap
  have hch : Chg (fun k => w.heap.size ≤ k) w w1 := .of_below hb
  have h1 := hch.obj hS.heap (by omega)
  have hgb : g ≠ b := by have := hS.ne; simpa [Value.ownBlock] using this
  have hsz : 0 < cs.size := by
    have h2 := hS.fst
    rcases Nat.eq_zero_or_pos cs.size with h | h
    · rw [Array.eq_empty_of_size_eq_zero h] at h2
      simp at h2
    · exact h
  obtain ⟨cur, hg, hnc, hcm, hcs, htake⟩ := ownsRow_heap (n := l.length) (by have h := hS.own; have e := (by rcases h.2 with ⟨h', _⟩ | ⟨_, _, _, h', _⟩ <;> simp at h' <;> exact h'.2.1 : n = l.length); subst e; exact h)
  have hgw := heap_lt hg
  refine ⟨.slice (some ⟨g, 0, none⟩) a cap, ⟨?_, ?_, ?_, ?_⟩, ?_, ?_⟩
  · rw [heap_set_same h1 0]
  · simp [hsz]
  · refine ownsRow_setCell_other ?_ (by simpa [Value.ownBlock] using hgb) _
    have hl : (l.take a).length = a := by simp; omega
    rw [hl]
    refine ⟨by simp; omega, .inr ⟨g, cap, cur, rfl, Nat.zero_le _, hch.obj hg (by omega), by omega, hcm, hcs, ?_⟩⟩
    rw [List.map_take, ← htake, List.take_take]
    congr 1
    omega
  · simpa [Value.ownBlock] using hgb
  · intro k hk; exact hk
  · exact (hch.mono (fun i hi h => by omega)).setCell (fun _ => .inl rfl) _

theorem stack_nil {w w' : World} {b : Nat} {cs : Array Value} {T : TypeId} {l : List ByteArray} (hS : StackAt w b (.slice none 0 0) cs T l) (hw : w' = w.setCell ⟨b, 0, none⟩ (.slice none 0 0)) : PopTo w b (.slice none 0 0) cs T l w' := by
  subst hw
  have hsz : 0 < cs.size := by
    have h2 := hS.fst
    rcases Nat.eq_zero_or_pos cs.size with h | h
    · rw [Array.eq_empty_of_size_eq_zero h] at h2
      simp at h2
    · exact h
  refine ⟨.slice none 0 0, ⟨?_, ?_, ?_, ?_⟩, ?_, ?_⟩
  · rw [heap_set_same hS.heap 0]
  · simp [hsz]
  · exact ownsRow_setCell_other hS.own (by simp [Value.ownBlock]) _
  · simp [Value.ownBlock]
  · intro k hk; exact hk
  · exact (Chg.refl _ w).setCell (fun _ => .inl rfl) _

set_option maxHeartbeats 1000000 in
theorem pop_less (w : World) (b : Nat) (v : Value) (cs : Array Value) (T : TypeId) (l : List ByteArray) (hS : StackAt w b v cs T l) (n : Nat) (hn : l.length < n) (hn2 : n ≤ 2) :
    Calls Tryz.prog 93 #[.pointer (some ⟨b, 0, none⟩), .int .i64 n] w (Rets (.tuple #[.slice none 0 0, .bool false]) (fun w' => w = w')) := by
  obtain ⟨h1, h2, h3, h4⟩ := hS
  have hcell : w.cell? ⟨b, 0, none⟩ = some v := (cell_of h1 0).trans h2
  have hlen := fun w ty => run_len_own (P := Tryz.prog) Tryz.underlying22 h3 w ty
  have hn' : (l.length : Int) - n < 0 := by omega
  go_enter Tryz.func93, Tryz.ntmps93
  go_wp2
  all_goals go_ret2
  all_goals exact ⟨rfl, rfl⟩

set_option maxRecDepth 100000 in
set_option maxHeartbeats 1000000 in
theorem pop_ok (w : World) (b : Nat) (v : Value) (cs : Array Value) (T : TypeId) (l : List ByteArray) (hS : StackAt w b v cs T l) (n : Nat) (hn : n ≤ l.length) (hn2 : n ≤ 2) (h8 : l.length ≤ 1000) :
    Calls Tryz.prog 93 #[.pointer (some ⟨b, 0, none⟩), .int .i64 n] w (fun e w' => ∃ lv, e = .returned (.tuple #[lv, .bool true]) ∧
      PopTo w b v cs T (l.take (l.length - n)) w' ∧ w'.ownsRow w.heap.size 9 1 lv n ((l.drop (l.length - n)).map Value.string)) := by
  have hS' := hS
  obtain ⟨h1, h2, h3, h4⟩ := hS
  have hcell : w.cell? ⟨b, 0, none⟩ = some v := (cell_of h1 0).trans h2
  have hfz := frozen_of h1 0
  have hlen := fun w ty => run_len_own (P := Tryz.prog) Tryz.underlying22 h3 w ty
  have hn' : (0 : Int) ≤ (l.length : Int) - n := by omega
  have hbw := heap_lt h1
  rcases h3.2 with ⟨rfl, hz⟩ | ⟨g, cap, cur, rfl, hb', hg, hnc, hcm, hcs, htake⟩
  · have hl0 : l = [] := List.eq_nil_of_length_eq_zero hz
    subst hl0
    obtain rfl : n = 0 := by simpa using hn
    go_enter Tryz.func93, Tryz.ntmps93
    go_wp2_with (go_at_call 77; refine (Tryz.slices_Clone_string_nil _ _ _).mono ?_; rintro e w' ⟨rfl, rfl⟩)
    go_ret2
    refine ⟨_, rfl, stack_nil hS' rfl, World.ownsRow_nil _ _ _ _⟩
  · have hnc' : (l.length : Int) ≤ cap := by omega
    have hg' : g ≠ b := by simpa [Value.ownBlock] using h4
    by_cases hn0 : n = 0
    · subst hn0
      have ht : l.take (l.length - 0) = l := by simp
      have hd : l.drop (l.length - 0) = [] := by simp
      rw [ht, hd]
      have HT := hid htake
      have HC := hid hcs
      clear htake hcs ht hd
      have fin : ∀ (ad : Addr) (c : Nat) (K : Ending → World → Prop), (∀ lv w1, PopTo w b (.slice (some ⟨g, 0, none⟩) l.length cap) cs T l (w1.setCell ⟨b, 0, none⟩ (.slice (some ⟨g, 0, none⟩) l.length cap)) →
          (w1.setCell ⟨b, 0, none⟩ (.slice (some ⟨g, 0, none⟩) l.length cap)).ownsRow w.heap.size 9 1 lv 0 [] → w1.cell? ⟨b, 0, none⟩ = some (.slice (some ⟨g, 0, none⟩) l.length cap) → w1.frozen? ⟨b, 0, none⟩ = false → K (.returned lv) w1) →
          Calls Tryz.prog 77 #[.slice (some ad) 0 c] w K := by
        intro ad c K h
        refine (Tryz.slices_Clone_string_zero ad c w).mono ?_
        rintro e w1 ⟨lv, rfl, hlv, _, hbel⟩
        have hh := (Chg.of_below hbel).obj h1 (by omega)
        refine h lv w1 ?_ (ownsRow_setCell_below hlv hbw _) ((cell_of hh 0).trans h2) (frozen_of hh 0)
        have := stack_cut hS' hbel (a := l.length) (Nat.le_refl _)
        rwa [List.take_length] at this
      clear hS' hg hb' hbw
      by_cases hcap : cap = l.length
      · subst hcap
        go_enter Tryz.func93, Tryz.ntmps93
        go_wp2_with (go_at_call 77; refine fin _ _ _ ?_; intro lv w1 k1 k2 c1 f1)
        go_ret2
        exact ⟨_, rfl, k1, k2⟩
      · go_enter Tryz.func93, Tryz.ntmps93
        go_wp2_with (go_at_call 77; refine fin _ _ _ ?_; intro lv w1 k1 k2 c1 f1)
        go_ret2
        exact ⟨_, rfl, k1, k2⟩
    · obtain ⟨m, hm⟩ : ∃ m, l.length = m + n := ⟨l.length - n, by omega⟩
      have he : (l.length : Int) - (n : Int) = (m : Int) := by omega
      have hm0 : (0 : Int) ≤ (m : Int) := by omega
      have hml : (m : Int) ≤ (l.length : Int) := by omega
      have hmc : (m : Int) ≤ (cap : Int) := by omega
      have hcm' : ¬ cap = m := by omega
      have fin : ∀ (k c : Nat) (K : Ending → World → Prop), k = n → (∀ lv w1, PopTo w b (.slice (some ⟨g, 0, none⟩) l.length cap) cs T (l.take (l.length - n)) (w1.setCell ⟨b, 0, none⟩ (.slice (some ⟨g, 0, none⟩) m cap)) →
          (w1.setCell ⟨b, 0, none⟩ (.slice (some ⟨g, 0, none⟩) m cap)).ownsRow w.heap.size 9 1 lv n ((l.drop (l.length - n)).map Value.string) → w1.cell? ⟨b, 0, none⟩ = some (.slice (some ⟨g, 0, none⟩) l.length cap) → w1.frozen? ⟨b, 0, none⟩ = false → K (.returned lv) w1) →
          Calls Tryz.prog 77 #[.slice (some ⟨g, m, none⟩) k c] w K := by
        intro k c K hk h
        subst hk
        have hlm : l.length - k = m := by omega
        rw [hlm] at h
        refine (Tryz.slices_Clone_string g m k c (l.drop m) w (by simp; omega) (by omega) ?_).mono ?_
        · intro j hj
          rw [List.length_drop] at hj
          have := h3.cellAt (m + j) (by omega)
          rw [this]
          simp [List.getD_eq_getElem?_getD, show m + j < l.length from by omega]
        · rintro e w1 ⟨lv, rfl, hlv, _, hbel⟩
          have hh := (Chg.of_below hbel).obj h1 (by omega)
          rw [List.take_of_length_le (by simp; omega)] at hlv
          exact h lv w1 (stack_cut hS' hbel (by omega)) (ownsRow_setCell_below hlv hbw _) ((cell_of hh 0).trans h2) (frozen_of hh 0)
      have hx : l.length - m = n := by omega
      clear hS' hg hb' hbw
      have HT := hid htake
      have HC := hid hcs
      clear htake hcs
      go_enter Tryz.func93, Tryz.ntmps93
      go_wp2_with (go_at_call 77; refine fin _ _ _ (by omega) ?_; intro lv w1 k1 k2 c1 f1)
      go_ret2
      exact ⟨_, rfl, k1, k2⟩
end Go.Proofs.YthglfmacjoecgaaGreatDoor
namespace Go.Proofs.YthglfmacjoecgaaGreatDoor
open Go.Shelf Go.RowKit Go.Lib
def Tryz.rev_ren : Go.Shelf.Ren := ⟨fun | 35 => 123 | n => n, fun | 22 => 125 | 23 => 5 | 3 => 3 | 4 => 4 | n => n, fun | n => n⟩
theorem Tryz.rev_lays : SlLaysE.n35 Tryz.prog Tryz.rev_ren := {
  mixed := by kernel_rfl
  f35 := ⟨Tryz.f123.name, by decide, Tryz.func123.trans (congrArg some (by kernel_rfl))⟩
  t0 := Tryz.underlying0
  a0 := Tryz.isAgg0
  z0 := Tryz.sizeOf0
  v0 := Tryz.zeroValue0
  t3 := Tryz.underlying3
  a3 := Tryz.isAgg3
  z3 := Tryz.sizeOf3
  v3 := Tryz.zeroValue3
  t4 := Tryz.underlying4
  a4 := Tryz.isAgg4
  z4 := Tryz.sizeOf4
  v4 := Tryz.zeroValue4
  t22 := Tryz.underlying125
  a22 := Tryz.isAgg125
  z22 := Tryz.sizeOf125
  v22 := Tryz.zeroValue125
  a23 := Tryz.isAgg5
  z23 := Tryz.sizeOf5
}
end Go.Proofs.YthglfmacjoecgaaGreatDoor
namespace Go.Proofs.YthglfmacjoecgaaGreatDoor
open Go.RowKit Go.Lib Go.Sort

/-- A blob's bytes the other way round. -/
def revS (s : ByteArray) : ByteArray := { data := s.data.reverse }
theorem revS_size (s : ByteArray) : (revS s).size = s.size := by
  show s.data.reverse.size = s.data.size
  simp
theorem revS_get (s : ByteArray) (i : Nat) (h : i < (revS s).size) : (revS s)[i] = s.data.toList.reverse.toArray[i]'(by rw [revS_size] at h; simpa using h) := by
  have e : s.data.reverse = s.data.toList.reverse.toArray := by rw [← Array.toList_reverse, Array.toArray_toList]
  exact getElem_congr_coll (c := s.data.reverse) (d := s.data.toList.reverse.toArray) (i := i) (w := h) e
def encBM (b : UInt8) : Value := .int .u8 (b.toNat : Int)

set_option maxHeartbeats 1000000 in
theorem turned_any (s : ByteArray) (w : World) (hs : s.size ≤ maxLen) :
    Calls Tryz.prog 98 #[.string s] w (Rets (.string (revS s)) (Chg (fun _ => False) w)) := by
  obtain ⟨w1, cap, hconv, hcell, hfz, hch, hsz, hcap⟩ := conv_bytes (P := Tryz.prog) 9 125 5 Tryz.underlying9 Tryz.underlying125 Tryz.underlying5 w s
  have hH : Holds encBM w1 w.heap.size 0 s.data.toList.toArray := by
    intro j hj
    have hj' : j < s.size := by simpa using hj
    rw [Nat.zero_add]
    refine ⟨?_, hfz j hj'⟩
    rw [hcell j hj', getElem!_pos s.data.toList.toArray j hj]
    rfl
  have hrev : ∀ (n : Nat), n = s.size → ∀ K : Ending → World → Prop, (∀ w2 : World, w2.heap.size = w1.heap.size → (convert 125 9 (.slice (some ⟨w.heap.size, 0, none⟩) s.size cap)).run Tryz.prog w2 = .ok (.string (revS s)) w2 → Chg (fun _ => False) w w2 → K (.returned (.tuple #[])) w2) →
      Calls Tryz.prog 123 #[.slice (some ⟨w.heap.size, 0, none⟩) n cap] w1 K := by
    intro n hn K hK
    have hl : s.data.toList.length = s.size := by simp
    have h := AnyE.slices_Reverse Tryz.rev_lays encBM (fun x => rfl) w.heap.size 0 cap s.data.toList w1 hH (by unfold maxLen at hs; omega)
    rw [hl, ← hn] at h
    refine h.mono ?_
    rintro e w2 ⟨rfl, q, rfl⟩
    refine hK _ (by simp) ?_ ?_
    · have hB : Bytes (putRow encBM (Sort.ahead w1 q) w.heap.size 0 s.data.toList.reverse.toArray) w.heap.size 0 (revS s) := by
        intro i hi
        have hi' : i < s.data.toList.reverse.toArray.size := by have := hi; rw [revS_size] at this; simpa using this
        have := cell?_putRow encBM (Sort.ahead w1 q) w.heap.size 0 s.data.toList.toArray s.data.toList.reverse.toArray hH (by simp) i hi'
        rw [this, getElem!_pos s.data.toList.reverse.toArray i hi']
        rw [revS_get]
        rfl
      have h := run_convert_whole (P := Tryz.prog) _ 125 5 9 Tryz.underlying125 Tryz.underlying5 Tryz.underlying9 w.heap.size 0 (revS s) hB cap
      rw [revS_size] at h
      exact h
    · refine ⟨hch.os, hch.tape, hch.output, ?_, ?_⟩
      · simp; omega
      · intro k hk hn'
        rw [← hch.block k hk hn']
        simp [putRow, mapBlock, Array.getElem?_modify]
        intro e; omega
  have hs' := hs
  unfold maxLen at hs
  go_enter Tryz.func98, Tryz.ntmps98
  go_wp2_with (go_at_call 123; refine hrev _ rfl _ ?_; intro w2 hsz2 hb hch2)
  go_ret
  exact ⟨rfl, hch2⟩
end Go.Proofs.YthglfmacjoecgaaGreatDoor
namespace Go.Proofs.YthglfmacjoecgaaGreatDoor
open Go.RowKit

def machCells (v : Value) (code : ByteArray) (inV : Value) (at_ : Nat) : Array Value := #[v, .string code, inV, .int .i64 at_]

/-- The machine at block b: its stack's row v (blocks from B on are the call's own). -/
structure MachV (B : Nat) (w : World) (b : Nat) (v : Value) (code : ByteArray) (inV : Value) (at_ : Nat) (l : List ByteArray) : Prop where
  st : StackAt w b v (machCells v code inV at_) 121 l
  hb : B ≤ b
  hv : ∀ k, v.ownBlock = some k → B ≤ k

theorem MachV.cell0 {B : Nat} {w : World} {b : Nat} {v : Value} {code : ByteArray} {inV : Value} {at_ : Nat} {l : List ByteArray} (h : MachV B w b v code inV at_ l) : w.cell? ⟨b, 0, none⟩ = some v := cell_of h.st.heap 0
theorem MachV.cell2 {B : Nat} {w : World} {b : Nat} {v : Value} {code : ByteArray} {inV : Value} {at_ : Nat} {l : List ByteArray} (h : MachV B w b v code inV at_ l) : w.cell? ⟨b, 2, none⟩ = some inV := cell_of h.st.heap 2
theorem MachV.cell3 {B : Nat} {w : World} {b : Nat} {v : Value} {code : ByteArray} {inV : Value} {at_ : Nat} {l : List ByteArray} (h : MachV B w b v code inV at_ l) : w.cell? ⟨b, 3, none⟩ = some (.int .i64 at_) := cell_of h.st.heap 3
theorem MachV.lt {B : Nat} {w : World} {b : Nat} {v : Value} {code : ByteArray} {inV : Value} {at_ : Nat} {l : List ByteArray} (h : MachV B w b v code inV at_ l) : b < w.heap.size := heap_lt h.st.heap
theorem MachV.own_lt {B : Nat} {w : World} {b : Nat} {v : Value} {code : ByteArray} {inV : Value} {at_ : Nat} {l : List ByteArray} (h : MachV B w b v code inV at_ l) : ∀ k, v.ownBlock = some k → k < w.heap.size := fun k hk => (World.ownsRow.lt h.st.own k hk).2
theorem MachV.drew {B : Nat} {w : World} {b : Nat} {v : Value} {code : ByteArray} {inV : Value} {at_ : Nat} {l : List ByteArray} (h : MachV B w b v code inV at_ l) : MachV B w.drew b v code inV at_ l := ⟨⟨h.st.heap, h.st.fst, h.st.own, h.st.ne⟩, h.hb, h.hv⟩
theorem MachV.alloc {B : Nat} {w : World} {b : Nat} {v : Value} {code : ByteArray} {inV : Value} {at_ : Nat} {l : List ByteArray} (h : MachV B w b v code inV at_ l) (o : Obj) : MachV B (w.alloc o) b v code inV at_ l :=
  ⟨⟨heap_alloc_old' h.st.heap o, h.st.fst, h.st.own.alloc o, h.st.ne⟩, h.hb, h.hv⟩
theorem MachV.chg {B : Nat} {w w' : World} {b : Nat} {v : Value} {code : ByteArray} {inV : Value} {at_ : Nat} {l : List ByteArray} {F : Nat → Prop} (h : MachV B w b v code inV at_ l) (hc : Chg F w w') (hF : ∀ k, k < w.heap.size → ¬ F k) : MachV B w' b v code inV at_ l :=
  ⟨⟨hc.obj h.st.heap (hF _ h.lt), h.st.fst, hc.owns h.st.own (fun k hk => hF k (h.own_lt k hk)), h.st.ne⟩, h.hb, h.hv⟩
/-- 'm.at = n'. -/
theorem MachV.setAt {B : Nat} {w : World} {b : Nat} {v : Value} {code : ByteArray} {inV : Value} {at_ : Nat} {l : List ByteArray} (h : MachV B w b v code inV at_ l) (n : Nat) : MachV B (w.setCell ⟨b, 3, none⟩ (.int .i64 n)) b v code inV n l :=
  ⟨⟨heap_set_same h.st.heap 3 _, rfl, ownsRow_setCell_other h.st.own h.st.ne _, h.st.ne⟩, h.hb, h.hv⟩
/-- What a push or pop has made of the stack. -/
theorem MachV.to {B : Nat} {w w' : World} {b : Nat} {v : Value} {code : ByteArray} {inV : Value} {at_ : Nat} {l l' : List ByteArray} (h : MachV B w b v code inV at_ l) (hB : B ≤ w.heap.size) (ht : StackTo w b v (machCells v code inV at_) 121 l' w') :
    ∃ v', MachV B w' b v' code inV at_ l' ∧ Chg (fun k => B ≤ k) w w' := by
  obtain ⟨v', h1, h2, h3⟩ := ht
  refine ⟨v', ⟨⟨h1.heap, rfl, h1.own, h1.ne⟩, h.hb, fun k hk => ?_⟩, h3.mono ?_⟩
  · rcases h2 k hk with e | e
    · exact h.hv k e
    · omega
  · rintro i _ (rfl | e)
    · exact h.hb
    · exact h.hv i e

/-- (*stack).pop at a machine, what is taken being named. -/
theorem mpops {B : Nat} {w : World} {b : Nat} {v : Value} {code : ByteArray} {inV : Value} {at_ : Nat} {r ps : List ByteArray} (h : MachV B w b v code inV at_ (r ++ ps)) (hB : B ≤ w.heap.size) (n : Nat) (hn : ps.length = n) (hn2 : n ≤ 2) (h8 : r.length ≤ 900) :
    Calls Tryz.prog 93 #[.pointer (some ⟨b, 0, none⟩), .int .i64 n] w (fun e w' => ∃ lv, e = .returned (.tuple #[lv, .bool true]) ∧
      Chg (fun k => B ≤ k) w w' ∧ w'.ownsRow w.heap.size 9 1 lv n (ps.map Value.string) ∧ ∃ v', MachV B w' b v' code inV at_ r ∧ ∀ k, v'.ownBlock = some k → k < w.heap.size) := by
  subst hn
  refine (pop_ok w b v _ _ _ h.st ps.length (by simp) hn2 (by simp; omega)).mono ?_
  rintro e w' ⟨lv, rfl, ht, ho⟩
  have e1 : (r ++ ps).length - ps.length = r.length := by simp
  rw [e1, List.drop_left] at ho
  rw [e1, List.take_left] at ht
  obtain ⟨v', h1, h2⟩ := h.to hB ht.to
  obtain ⟨v2, k1, k2, _⟩ := ht
  have h3 := cell_of k1.heap 0
  have h4 := h1.cell0
  have e2 : v' = v2 := by
    have h5 := (cell_of k1.heap 0).trans k1.fst
    rw [h5] at h4
    exact (Option.some.inj h4).symm
  subst e2
  exact ⟨lv, rfl, h2, ho, v', h1, fun k hk => h.own_lt k (k2 k hk)⟩

theorem cell_alloc_drew {W : World} {a : Addr} {u : Value} (h : W.cell? a = some u) (o : Obj) : (W.alloc o).drew.cell? a = some u :=
  (((Chg.refl (fun _ => False) W).alloc o).drew).cell h (fun h => h)

/-- (*stack).push at a machine, the list just laid, an order drawn. -/
theorem mpush_drew {B : Nat} {w : World} {b : Nat} {v : Value} {code : ByteArray} {inV : Value} {at_ : Nat} {l : List ByteArray} (h : MachV B w b v code inV at_ l) (hB : B ≤ w.heap.size) (ss : List ByteArray) (hn2 : ss.length ≤ 100) (arr : Array Value) (ha : arr = (ss.map Value.string).toArray) (g n c : Nat) (hgw : g = w.heap.size) (hn : n = ss.length) (hsz : ∀ s ∈ ss, s.size ≤ maxLen) (hl : l.length ≤ 1000) :
    Calls Tryz.prog 97 #[.pointer (some ⟨b, 0, none⟩), .slice (some ⟨g, 0, none⟩) n c] (w.alloc (.cells arr 9)).drew
      (Rets (.int .i64 (pushR l ss).1) (fun w' => Chg (fun k => B ≤ k) w w' ∧ Chg (fun k => k = b ∨ v.ownBlock = some k) w w' ∧ ∃ v', MachV B w' b v' code inV at_ (pushR l ss).2)) := by
  subst ha hn hgw
  have h' : MachV B (w.alloc (.cells (ss.map Value.string).toArray 9)).drew b v code inV at_ l := (h.alloc _).drew
  refine (push_any _ b v _ _ l h'.st w.heap.size _ c ss rfl hn2 ?_ ?_ ?_ hsz hl).mono ?_
  · intro i hi
    have : (w.alloc (.cells (ss.map Value.string).toArray 9)).heap[w.heap.size]? = some (.cells (ss.map Value.string).toArray 9 (0, 0)) := heap_alloc_new w _
    have := cell_of this i
    refine this.trans ?_
    simp [hi]
  · have := h.lt; omega
  · intro e; have := h.own_lt _ e; omega
  · rintro e w' ⟨rfl, ht⟩
    have hc : Chg (fun k => k = b ∨ v.ownBlock = some k) w w' := ((((Chg.refl _ w).alloc _).drew).trans (let ⟨_, _, _, h3⟩ := ht; h3) (fun _ _ h => h))
    obtain ⟨v', h1, h2⟩ := h'.to (by simp; omega) ht
    exact ⟨rfl, (((Chg.refl _ w).alloc _).drew).trans h2 (fun _ _ h => h), hc, v', h1⟩

/-- What a step that pushes leaves. -/
def Stepped (B : Nat) (w : World) (b : Nat) (code : ByteArray) (inV : Value) (at_ : Nat) (q : Nat × List ByteArray) : Ending → World → Prop :=
  Rets (.int .i64 q.1) (fun w' => Chg (fun k => B ≤ k) w w' ∧ ∃ v', MachV B w' b v' code inV at_ q.2)
theorem stepped {B b : Nat} {w w1 w' : World} {u : Value} (h1 : Chg (fun k => B ≤ k) w.drew w1) (h2 : Chg (fun k => B ≤ k) (w1.setCell ⟨b, 3, none⟩ u) w') (hb : B ≤ b) : Chg (fun k => B ≤ k) w w' :=
  ((((Chg.refl _ w).drew).trans h1 (fun _ _ h => h)).setCell (p := ⟨b, 3, none⟩) (fun _ => hb) u).trans h2 (fun _ _ h => h)
end Go.Proofs.YthglfmacjoecgaaGreatDoor
namespace Go.Proofs.YthglfmacjoecgaaGreatDoor
open Go.RowKit

set_option maxRecDepth 100000 in
set_option maxHeartbeats 2000000 in
theorem step_c {B : Nat} {w : World} {b : Nat} {v : Value} {code : ByteArray} {inV : Value} {at_ : Nat} {r : List ByteArray} {p0 p1 : ByteArray} (h : MachV B w b v code inV at_ (r ++ [p0, p1])) (hB : B ≤ w.heap.size) (hr : r.length ≤ 8) (h0 : p0.size ≤ 512) (h1 : p1.size ≤ 512) (hat : at_ ≤ 1000)
    (s : ByteArray) (hs1 : 1 ≤ s.size) (hs2 : s.size ≤ 300) (hc : s[0] = 99) :
    Calls Tryz.prog 61 #[.pointer (some ⟨b, 0, none⟩), .string s] w (Stepped B w b code inV (at_ + s.size) (pushR r [p0 ++ p1])) := by
  have hc' : ((s[0].toNat : Nat) : Int) = 99 := by rw [hc]; rfl
  have htk : ∀ w : World, Calls Tryz.prog 96 #[.int .u8 99] w (Rets (.int .i64 2) (fun w' => w = w')) := fun w => takes_any 99 w
  have hpop := mpops h.drew hB 2 rfl (by omega) (by omega)
  have hs0 : (0 : Int) < s.size := by omega

  have hjs2 : ¬ 9223372036854775807 < p0.size + p1.size := by omega
  go_enter Tryz.func61, Tryz.ntmps61
  go_wp2_with (go_at_call 95; refine (number_any s _ (by unfold maxLen; omega)).mono ?_; rintro e w' ⟨rfl, rfl⟩)
  go_region_held3 (fun _ => True) (trivial) (first | (go_at_call 96; refine (htk _).mono ?_; rintro e w' ⟨rfl, rfl⟩) | (go_at_call 93; refine hpop.mono ?_; rintro e w1 ⟨lv, rfl, hch1, hlv, v1, hM1, hv1⟩))
  have c3 := hM1.cell3
  have f3 := frozen_of hM1.st.heap 3
  obtain ⟨g, cap, rfl, hcap, hgl⟩ := owns_some hlv (by decide)
  have hgw := (World.ownsRow.lt hlv g rfl).1
  have hgb : g ≠ b := by have := h.lt; simp at *; omega
  have hgv : v1.ownBlock ≠ some g := fun e => by have := hv1 g e; omega
  have e0 : w1.cell? ⟨g, 0, none⟩ = some (.string p0) := hlv.cellAt 0 (by omega)
  have e1 : w1.cell? ⟨g, 1, none⟩ = some (.string p1) := hlv.cellAt 1 (by omega)
  have hM2 := hM1.setAt (at_ + s.size)
  rw [Int.natCast_add] at hM2
  have k0 := ((Chg.refl (fun k => k = b) w1).setCell (p := ⟨b, 3, none⟩) (fun _ => rfl) (.int .i64 ((at_ : Int) + (s.size : Int)))).cell e0 hgb
  have k1 := ((Chg.refl (fun k => k = b) w1).setCell (p := ⟨b, 3, none⟩) (fun _ => rfl) (.int .i64 ((at_ : Int) + (s.size : Int)))).cell e1 hgb
  have hB3 : B ≤ (w1.setCell ⟨b, 3, none⟩ (.int .i64 ((at_ : Int) + (s.size : Int)))).heap.size := Nat.le_trans hB (by have := hch1.size; simpa [World.setCell] using this)
  have hgs := hid (show w1.heap.size = (w1.setCell ⟨b, 3, none⟩ (.int .i64 ((at_ : Int) + (s.size : Int)))).heap.size by simp [World.setCell])
  have hsz : ∀ x ∈ [p0 ++ p1], x.size ≤ maxLen := by
    unfold maxLen; intro x hx; simp at hx; subst hx; simp; omega
  have k0' := cell_alloc_drew k0 (.cells #[.string (p0 ++ p1)] 9)
  have k1' := cell_alloc_drew k1 (.cells #[.string (p0 ++ p1)] 9)
  go_wp2_with fail
  go_region_held3 (fun w' => w'.cell? ⟨g, 0, none⟩ = some (.string p0) ∧ w'.cell? ⟨g, 1, none⟩ = some (.string p1)) (first | go_keep | exact ⟨k0', k1'⟩ | exact ⟨hch3.cell k0 (fun h => h.elim hgb hgv), hch3.cell k1 (fun h => h.elim hgb hgv)⟩) (first | (go_at_call 97; refine (mpush_drew hM2 hB3 [p0 ++ p1] (by simp) _ rfl _ _ _ hgs.out rfl hsz (by omega)).mono ?_; rintro e w' ⟨rfl, hch2, hch3, hM4⟩))
  go_wp2_with fail
  go_ret
  exact ⟨rfl, stepped hch1 hch2 h.hb, hM4⟩

set_option maxRecDepth 100000 in
set_option maxHeartbeats 2000000 in
theorem step_d {B : Nat} {w : World} {b : Nat} {v : Value} {code : ByteArray} {inV : Value} {at_ : Nat} {r : List ByteArray} {p0 : ByteArray} (h : MachV B w b v code inV at_ (r ++ [p0])) (hB : B ≤ w.heap.size) (hr : r.length ≤ 8) (h0 : p0.size ≤ 512) (hat : at_ ≤ 1000)
    (s : ByteArray) (hs1 : 1 ≤ s.size) (hs2 : s.size ≤ 300) (hc : s[0] = 100) :
    Calls Tryz.prog 61 #[.pointer (some ⟨b, 0, none⟩), .string s] w (Stepped B w b code inV (at_ + s.size) (pushR r [p0, p0])) := by
  have hc' : ((s[0].toNat : Nat) : Int) = 100 := by rw [hc]; rfl
  have htk : ∀ w : World, Calls Tryz.prog 96 #[.int .u8 100] w (Rets (.int .i64 1) (fun w' => w = w')) := fun w => takes_any 100 w
  have hpop := mpops h.drew hB 1 rfl (by omega) (by omega)
  have hs0 : (0 : Int) < s.size := by omega
  go_enter Tryz.func61, Tryz.ntmps61
  go_wp2_with (go_at_call 95; refine (number_any s _ (by unfold maxLen; omega)).mono ?_; rintro e w' ⟨rfl, rfl⟩)
  go_region_held3 (fun _ => True) (trivial) (first | (go_at_call 96; refine (htk _).mono ?_; rintro e w' ⟨rfl, rfl⟩) | (go_at_call 93; refine hpop.mono ?_; rintro e w1 ⟨lv, rfl, hch1, hlv, v1, hM1, hv1⟩))
  have c3 := hM1.cell3
  have f3 := frozen_of hM1.st.heap 3
  obtain ⟨g, cap, rfl, hcap, hgl⟩ := owns_some hlv (by decide)
  have hgw := (World.ownsRow.lt hlv g rfl).1
  have hgb : g ≠ b := by have := h.lt; simp at *; omega
  have hgv : v1.ownBlock ≠ some g := fun e => by have := hv1 g e; omega
  have e0 : w1.cell? ⟨g, 0, none⟩ = some (.string p0) := hlv.cellAt 0 (by omega)
  have hM2 := hM1.setAt (at_ + s.size)
  rw [Int.natCast_add] at hM2
  have k0 := ((Chg.refl (fun k => k = b) w1).setCell (p := ⟨b, 3, none⟩) (fun _ => rfl) (.int .i64 ((at_ : Int) + (s.size : Int)))).cell e0 hgb
  have hB3 : B ≤ (w1.setCell ⟨b, 3, none⟩ (.int .i64 ((at_ : Int) + (s.size : Int)))).heap.size := Nat.le_trans hB (by have := hch1.size; simpa [World.setCell] using this)
  have hgs := hid (show w1.heap.size = (w1.setCell ⟨b, 3, none⟩ (.int .i64 ((at_ : Int) + (s.size : Int)))).heap.size by simp [World.setCell])
  have hsz : ∀ x ∈ [p0, p0], x.size ≤ maxLen := by
    unfold maxLen; intro x hx; simp at hx; subst hx; omega
  have k0' := cell_alloc_drew k0 (.cells #[.string (p0), .string (p0)] 9)
  go_wp2_with fail
  go_region_held3 (fun w' => w'.cell? ⟨g, 0, none⟩ = some (.string p0)) (first | go_keep | exact k0' | exact hch3.cell k0 (fun h => h.elim hgb hgv)) (first | (go_at_call 97; refine (mpush_drew hM2 hB3 [p0, p0] (by simp) _ rfl _ _ _ hgs.out rfl hsz (by omega)).mono ?_; rintro e w' ⟨rfl, hch2, hch3, hM4⟩))
  go_wp2_with fail
  go_ret
  exact ⟨rfl, stepped hch1 hch2 h.hb, hM4⟩

set_option maxRecDepth 100000 in
set_option maxHeartbeats 2000000 in
theorem step_s {B : Nat} {w : World} {b : Nat} {v : Value} {code : ByteArray} {inV : Value} {at_ : Nat} {r : List ByteArray} {p0 p1 : ByteArray} (h : MachV B w b v code inV at_ (r ++ [p0, p1])) (hB : B ≤ w.heap.size) (hr : r.length ≤ 8) (h0 : p0.size ≤ 512) (h1 : p1.size ≤ 512) (hat : at_ ≤ 1000)
    (s : ByteArray) (hs1 : 1 ≤ s.size) (hs2 : s.size ≤ 300) (hc : s[0] = 115) :
    Calls Tryz.prog 61 #[.pointer (some ⟨b, 0, none⟩), .string s] w (Stepped B w b code inV (at_ + s.size) (pushR r [p1, p0])) := by
  have hc' : ((s[0].toNat : Nat) : Int) = 115 := by rw [hc]; rfl
  have htk : ∀ w : World, Calls Tryz.prog 96 #[.int .u8 115] w (Rets (.int .i64 2) (fun w' => w = w')) := fun w => takes_any 115 w
  have hpop := mpops h.drew hB 2 rfl (by omega) (by omega)
  have hs0 : (0 : Int) < s.size := by omega
  go_enter Tryz.func61, Tryz.ntmps61
  go_wp2_with (go_at_call 95; refine (number_any s _ (by unfold maxLen; omega)).mono ?_; rintro e w' ⟨rfl, rfl⟩)
  go_region_held3 (fun _ => True) (trivial) (first | (go_at_call 96; refine (htk _).mono ?_; rintro e w' ⟨rfl, rfl⟩) | (go_at_call 93; refine hpop.mono ?_; rintro e w1 ⟨lv, rfl, hch1, hlv, v1, hM1, hv1⟩))
  have c3 := hM1.cell3
  have f3 := frozen_of hM1.st.heap 3
  obtain ⟨g, cap, rfl, hcap, hgl⟩ := owns_some hlv (by decide)
  have hgw := (World.ownsRow.lt hlv g rfl).1
  have hgb : g ≠ b := by have := h.lt; simp at *; omega
  have hgv : v1.ownBlock ≠ some g := fun e => by have := hv1 g e; omega
  have e0 : w1.cell? ⟨g, 0, none⟩ = some (.string p0) := hlv.cellAt 0 (by omega)
  have e1 : w1.cell? ⟨g, 1, none⟩ = some (.string p1) := hlv.cellAt 1 (by omega)
  have hM2 := hM1.setAt (at_ + s.size)
  rw [Int.natCast_add] at hM2
  have k0 := ((Chg.refl (fun k => k = b) w1).setCell (p := ⟨b, 3, none⟩) (fun _ => rfl) (.int .i64 ((at_ : Int) + (s.size : Int)))).cell e0 hgb
  have k1 := ((Chg.refl (fun k => k = b) w1).setCell (p := ⟨b, 3, none⟩) (fun _ => rfl) (.int .i64 ((at_ : Int) + (s.size : Int)))).cell e1 hgb
  have hB3 : B ≤ (w1.setCell ⟨b, 3, none⟩ (.int .i64 ((at_ : Int) + (s.size : Int)))).heap.size := Nat.le_trans hB (by have := hch1.size; simpa [World.setCell] using this)
  have hgs := hid (show w1.heap.size = (w1.setCell ⟨b, 3, none⟩ (.int .i64 ((at_ : Int) + (s.size : Int)))).heap.size by simp [World.setCell])
  have hsz : ∀ x ∈ [p1, p0], x.size ≤ maxLen := by
    unfold maxLen; intro x hx; simp at hx; rcases hx with rfl | rfl <;> omega
  have k0' := cell_alloc_drew k0 (.cells #[.string (p1), .string (p0)] 9)
  have k1' := cell_alloc_drew k1 (.cells #[.string (p1), .string (p0)] 9)
  go_wp2_with fail
  go_region_held3 (fun w' => w'.cell? ⟨g, 0, none⟩ = some (.string p0) ∧ w'.cell? ⟨g, 1, none⟩ = some (.string p1)) (first | go_keep | exact ⟨k0', k1'⟩ | exact ⟨hch3.cell k0 (fun h => h.elim hgb hgv), hch3.cell k1 (fun h => h.elim hgb hgv)⟩) (first | (go_at_call 97; refine (mpush_drew hM2 hB3 [p1, p0] (by simp) _ rfl _ _ _ hgs.out rfl hsz (by omega)).mono ?_; rintro e w' ⟨rfl, hch2, hch3, hM4⟩))
  go_wp2_with fail
  go_ret
  exact ⟨rfl, stepped hch1 hch2 h.hb, hM4⟩

set_option maxRecDepth 100000 in
set_option maxHeartbeats 2000000 in
theorem step_eq {B : Nat} {w : World} {b : Nat} {v : Value} {code : ByteArray} {inV : Value} {at_ : Nat} {r : List ByteArray} {p0 p1 : ByteArray} (h : MachV B w b v code inV at_ (r ++ [p0, p1])) (hB : B ≤ w.heap.size) (hr : r.length ≤ 8) (_ : p0.size ≤ 512) (_ : p1.size ≤ 512) (hat : at_ ≤ 1000)
    (s : ByteArray) (hs1 : 1 ≤ s.size) (hs2 : s.size ≤ 300) (hc : s[0] = 61) :
    Calls Tryz.prog 61 #[.pointer (some ⟨b, 0, none⟩), .string s] w (Stepped B w b code inV (at_ + s.size) (pushR r [sameS p0 p1])) := by
  have hc' : ((s[0].toNat : Nat) : Int) = 61 := by rw [hc]; rfl
  have htk : ∀ w : World, Calls Tryz.prog 96 #[.int .u8 61] w (Rets (.int .i64 2) (fun w' => w = w')) := fun w => takes_any 61 w
  have hpop := mpops h.drew hB 2 rfl (by omega) (by omega)
  have hs0 : (0 : Int) < s.size := by omega
  go_enter Tryz.func61, Tryz.ntmps61
  go_wp2_with (go_at_call 95; refine (number_any s _ (by unfold maxLen; omega)).mono ?_; rintro e w' ⟨rfl, rfl⟩)
  go_region_held3 (fun _ => True) (trivial) (first | (go_at_call 96; refine (htk _).mono ?_; rintro e w' ⟨rfl, rfl⟩) | (go_at_call 93; refine hpop.mono ?_; rintro e w1 ⟨lv, rfl, hch1, hlv, v1, hM1, hv1⟩))
  have c3 := hM1.cell3
  have f3 := frozen_of hM1.st.heap 3
  obtain ⟨g, cap, rfl, hcap, hgl⟩ := owns_some hlv (by decide)
  have hgw := (World.ownsRow.lt hlv g rfl).1
  have hgb : g ≠ b := by have := h.lt; simp at *; omega
  have hgv : v1.ownBlock ≠ some g := fun e => by have := hv1 g e; omega
  have e0 : w1.cell? ⟨g, 0, none⟩ = some (.string p0) := hlv.cellAt 0 (by omega)
  have e1 : w1.cell? ⟨g, 1, none⟩ = some (.string p1) := hlv.cellAt 1 (by omega)
  have hM2 := hM1.setAt (at_ + s.size)
  rw [Int.natCast_add] at hM2
  have k0 := ((Chg.refl (fun k => k = b) w1).setCell (p := ⟨b, 3, none⟩) (fun _ => rfl) (.int .i64 ((at_ : Int) + (s.size : Int)))).cell e0 hgb
  have k1 := ((Chg.refl (fun k => k = b) w1).setCell (p := ⟨b, 3, none⟩) (fun _ => rfl) (.int .i64 ((at_ : Int) + (s.size : Int)))).cell e1 hgb
  have hB3 : B ≤ (w1.setCell ⟨b, 3, none⟩ (.int .i64 ((at_ : Int) + (s.size : Int)))).heap.size := Nat.le_trans hB (by have := hch1.size; simpa [World.setCell] using this)
  have hgs := hid (show w1.heap.size = (w1.setCell ⟨b, 3, none⟩ (.int .i64 ((at_ : Int) + (s.size : Int)))).heap.size by simp [World.setCell])
  have hsz : ∀ x ∈ [sameS p0 p1], x.size ≤ maxLen := by
    unfold maxLen; intro x hx; simp at hx; subst hx; unfold sameS; split <;> decide
  have k0' := cell_alloc_drew k0 (.cells #[.string (sameS p0 p1)] 9)
  have k1' := cell_alloc_drew k1 (.cells #[.string (sameS p0 p1)] 9)
  go_wp2_with fail
  go_region_held3 (fun w' => w'.cell? ⟨g, 0, none⟩ = some (.string p0) ∧ w'.cell? ⟨g, 1, none⟩ = some (.string p1)) (first | go_keep | exact ⟨k0', k1'⟩ | exact ⟨hch3.cell k0 (fun h => h.elim hgb hgv), hch3.cell k1 (fun h => h.elim hgb hgv)⟩) (first | (go_at_call 100; refine (same_any p0 p1 _).mono ?_; rintro e w' ⟨rfl, rfl⟩) | (go_at_call 97; refine (mpush_drew hM2 hB3 [sameS p0 p1] (by simp) _ rfl _ _ _ hgs.out rfl hsz (by omega)).mono ?_; rintro e w' ⟨rfl, hch2, hch3, hM4⟩))
  go_wp2_with fail
  go_ret
  exact ⟨rfl, stepped hch1 hch2 h.hb, hM4⟩

set_option maxRecDepth 100000 in
set_option maxHeartbeats 2000000 in
theorem step_p {B : Nat} {w : World} {b : Nat} {v : Value} {code : ByteArray} {inV : Value} {at_ : Nat} {r : List ByteArray} (h : MachV B w b v code inV at_ (r ++ [])) (hB : B ≤ w.heap.size) (hr : r.length ≤ 8) (hat : at_ ≤ 1000)
    (s : ByteArray) (hs1 : 1 ≤ s.size) (hs2 : s.size ≤ 300) (hc : s[0] = 112) (h2 : 2 ≤ s.size) :
    Calls Tryz.prog 61 #[.pointer (some ⟨b, 0, none⟩), .string s] w (Stepped B w b code inV (at_ + s.size) (pushR r [s.extract 2 s.size])) := by
  have hc' : ((s[0].toNat : Nat) : Int) = 112 := by rw [hc]; rfl
  have htk : ∀ w : World, Calls Tryz.prog 96 #[.int .u8 112] w (Rets (.int .i64 0) (fun w' => w = w')) := fun w => takes_any 112 w
  have hpop := mpops h.drew hB 0 rfl (by omega) (by omega)
  have hs0 : (0 : Int) < s.size := by omega
  have h2' : (2 : Int) ≤ (s.size : Int) := by omega
  go_enter Tryz.func61, Tryz.ntmps61
  go_wp2_with (go_at_call 95; refine (number_any s _ (by unfold maxLen; omega)).mono ?_; rintro e w' ⟨rfl, rfl⟩)
  go_region_held3 (fun _ => True) (trivial) (first | (go_at_call 96; refine (htk _).mono ?_; rintro e w' ⟨rfl, rfl⟩) | (go_at_call 93; refine hpop.mono ?_; rintro e w1 ⟨lv, rfl, hch1, hlv, v1, hM1, hv1⟩))
  have c3 := hM1.cell3
  have f3 := frozen_of hM1.st.heap 3
  have hM2 := hM1.setAt (at_ + s.size)
  rw [Int.natCast_add] at hM2
  have hB3 : B ≤ (w1.setCell ⟨b, 3, none⟩ (.int .i64 ((at_ : Int) + (s.size : Int)))).heap.size := Nat.le_trans hB (by have := hch1.size; simpa [World.setCell] using this)
  have hgs := hid (show w1.heap.size = (w1.setCell ⟨b, 3, none⟩ (.int .i64 ((at_ : Int) + (s.size : Int)))).heap.size by simp [World.setCell])
  have hsz : ∀ x ∈ [s.extract 2 s.size], x.size ≤ maxLen := by
    unfold maxLen; intro x hx; simp at hx; subst hx; simp; omega
  go_wp2_with fail
  go_region_held3 (fun _ => True) (trivial) (first | (go_at_call 97; refine (mpush_drew hM2 hB3 [s.extract 2 s.size] (by simp) _ rfl _ _ _ hgs.out rfl hsz (by omega)).mono ?_; rintro e w' ⟨rfl, hch2, hch3, hM4⟩))
  go_wp2_with fail
  go_ret
  exact ⟨rfl, stepped hch1 hch2 h.hb, hM4⟩
end Go.Proofs.YthglfmacjoecgaaGreatDoor
namespace Go.Proofs.YthglfmacjoecgaaGreatDoor
open Go.RowKit

set_option maxRecDepth 100000 in
set_option maxHeartbeats 2000000 in
theorem step_x {B : Nat} {w : World} {b : Nat} {v : Value} {code : ByteArray} {inV : Value} {at_ : Nat} {r : List ByteArray} {p0 : ByteArray} (h : MachV B w b v code inV at_ (r ++ [p0])) (hB : B ≤ w.heap.size) (hr : r.length ≤ 8) (_ : p0.size ≤ 512) (hat : at_ ≤ 1000)
    (s : ByteArray) (hs1 : 1 ≤ s.size) (hs2 : s.size ≤ 300) (hc : s[0] = 120) :
    Calls Tryz.prog 61 #[.pointer (some ⟨b, 0, none⟩), .string s] w (Stepped B w b code inV (at_ + s.size) (0, r)) := by
  have hc' : ((s[0].toNat : Nat) : Int) = 120 := by rw [hc]; rfl
  have htk : ∀ w : World, Calls Tryz.prog 96 #[.int .u8 120] w (Rets (.int .i64 1) (fun w' => w = w')) := fun w => takes_any 120 w
  have hpop := mpops h.drew hB 1 rfl (by omega) (by omega)
  have hs0 : (0 : Int) < s.size := by omega
  go_enter Tryz.func61, Tryz.ntmps61
  go_wp2_with (go_at_call 95; refine (number_any s _ (by unfold maxLen; omega)).mono ?_; rintro e w' ⟨rfl, rfl⟩)
  go_region_held3 (fun _ => True) (trivial) (first | (go_at_call 96; refine (htk _).mono ?_; rintro e w' ⟨rfl, rfl⟩) | (go_at_call 93; refine hpop.mono ?_; rintro e w1 ⟨lv, rfl, hch1, hlv, v1, hM1, hv1⟩))
  have c3 := hM1.cell3
  have f3 := frozen_of hM1.st.heap 3
  have hM2 := hM1.setAt (at_ + s.size)
  rw [Int.natCast_add] at hM2
  go_wp2_with fail
  go_ret
  exact ⟨rfl, (((Chg.refl _ w).drew).trans hch1 (fun _ _ h => h)).setCell (p := ⟨b, 3, none⟩) (fun _ => h.hb) _, v1, hM2⟩

set_option maxRecDepth 100000 in
set_option maxHeartbeats 2000000 in
theorem step_g {B : Nat} {w : World} {b : Nat} {v : Value} {code : ByteArray} {inV : Value} {at_ : Nat} {r : List ByteArray} (h : MachV B w b v code inV at_ (r ++ [])) (hB : B ≤ w.heap.size) (hr : r.length ≤ 8) (hat : at_ ≤ 1000)
    (s : ByteArray) (hs1 : 1 ≤ s.size) (hs2 : s.size ≤ 300) (hc : s[0] = 103) :
    Calls Tryz.prog 61 #[.pointer (some ⟨b, 0, none⟩), .string s] w (Stepped B w b code inV (numN s) (0, r)) := by
  have hc' : ((s[0].toNat : Nat) : Int) = 103 := by rw [hc]; rfl
  have htk : ∀ w : World, Calls Tryz.prog 96 #[.int .u8 103] w (Rets (.int .i64 0) (fun w' => w = w')) := fun w => takes_any 103 w
  have hpop := mpops h.drew hB 0 rfl (by omega) (by omega)
  have hs0 : (0 : Int) < s.size := by omega
  go_enter Tryz.func61, Tryz.ntmps61
  go_wp2_with (go_at_call 95; refine (number_any s _ (by unfold maxLen; omega)).mono ?_; rintro e w' ⟨rfl, rfl⟩)
  go_region_held3 (fun _ => True) (trivial) (first | (go_at_call 96; refine (htk _).mono ?_; rintro e w' ⟨rfl, rfl⟩) | (go_at_call 93; refine hpop.mono ?_; rintro e w1 ⟨lv, rfl, hch1, hlv, v1, hM1, hv1⟩))
  have c3 := hM1.cell3
  have f3 := frozen_of hM1.st.heap 3
  have hM2 := (hM1.setAt (at_ + s.size)).setAt (numN s)
  rw [Int.natCast_add] at hM2
  go_wp2_with fail
  go_ret
  exact ⟨rfl, ((((Chg.refl _ w).drew).trans hch1 (fun _ _ h => h)).setCell (p := ⟨b, 3, none⟩) (fun _ => h.hb) _).setCell (p := ⟨b, 3, none⟩) (fun _ => h.hb) _, v1, hM2⟩

set_option maxRecDepth 100000 in
set_option maxHeartbeats 2000000 in
theorem step_j0 {B : Nat} {w : World} {b : Nat} {v : Value} {code : ByteArray} {inV : Value} {at_ : Nat} {r : List ByteArray} {p0 : ByteArray} (h : MachV B w b v code inV at_ (r ++ [p0])) (hB : B ≤ w.heap.size) (hr : r.length ≤ 8) (h0 : p0.size ≤ 512) (hat : at_ ≤ 1000)
    (s : ByteArray) (hs1 : 1 ≤ s.size) (hs2 : s.size ≤ 300) (hc : s[0] = 106) (hz : p0 = ByteArray.empty) :
    Calls Tryz.prog 61 #[.pointer (some ⟨b, 0, none⟩), .string s] w (Stepped B w b code inV (numN s) (0, r)) := by
  have hc' : ((s[0].toNat : Nat) : Int) = 106 := by rw [hc]; rfl
  have htk : ∀ w : World, Calls Tryz.prog 96 #[.int .u8 106] w (Rets (.int .i64 1) (fun w' => w = w')) := fun w => takes_any 106 w
  have hpop := mpops h.drew hB 1 rfl (by omega) (by omega)
  have hs0 : (0 : Int) < s.size := by omega
  go_enter Tryz.func61, Tryz.ntmps61
  go_wp2_with (go_at_call 95; refine (number_any s _ (by unfold maxLen; omega)).mono ?_; rintro e w' ⟨rfl, rfl⟩)
  go_region_held3 (fun _ => True) (trivial) (first | (go_at_call 96; refine (htk _).mono ?_; rintro e w' ⟨rfl, rfl⟩) | (go_at_call 93; refine hpop.mono ?_; rintro e w1 ⟨lv, rfl, hch1, hlv, v1, hM1, hv1⟩))
  have c3 := hM1.cell3
  have f3 := frozen_of hM1.st.heap 3
  obtain ⟨g, cap, rfl, hcap, hgl⟩ := owns_some hlv (by decide)
  have hgw := (World.ownsRow.lt hlv g rfl).1
  have hgb : g ≠ b := by have := h.lt; simp at *; omega
  have hgv : v1.ownBlock ≠ some g := fun e => by have := hv1 g e; omega
  have e0 : w1.cell? ⟨g, 0, none⟩ = some (.string p0) := hlv.cellAt 0 (by omega)
  have hM2 := hM1.setAt (at_ + s.size)
  rw [Int.natCast_add] at hM2
  have k0 := ((Chg.refl (fun k => k = b) w1).setCell (p := ⟨b, 3, none⟩) (fun _ => rfl) (.int .i64 ((at_ : Int) + (s.size : Int)))).cell e0 hgb
  have hB3 : B ≤ (w1.setCell ⟨b, 3, none⟩ (.int .i64 ((at_ : Int) + (s.size : Int)))).heap.size := Nat.le_trans hB (by have := hch1.size; simpa [World.setCell] using this)
  have hgs := hid (show w1.heap.size = (w1.setCell ⟨b, 3, none⟩ (.int .i64 ((at_ : Int) + (s.size : Int)))).heap.size by simp [World.setCell])
  subst hz
  have hM3 := hM2.setAt (numN s)
  go_wp2_with fail
  go_ret
  exact ⟨rfl, ((((Chg.refl _ w).drew).trans hch1 (fun _ _ h => h)).setCell (p := ⟨b, 3, none⟩) (fun _ => h.hb) _).setCell (p := ⟨b, 3, none⟩) (fun _ => h.hb) _, v1, hM3⟩

set_option maxRecDepth 100000 in
set_option maxHeartbeats 2000000 in
theorem step_j1 {B : Nat} {w : World} {b : Nat} {v : Value} {code : ByteArray} {inV : Value} {at_ : Nat} {r : List ByteArray} {p0 : ByteArray} (h : MachV B w b v code inV at_ (r ++ [p0])) (hB : B ≤ w.heap.size) (hr : r.length ≤ 8) (_ : p0.size ≤ 512) (hat : at_ ≤ 1000)
    (s : ByteArray) (hs1 : 1 ≤ s.size) (hs2 : s.size ≤ 300) (hc : s[0] = 106) (hz : p0 ≠ ByteArray.empty) :
    Calls Tryz.prog 61 #[.pointer (some ⟨b, 0, none⟩), .string s] w (Stepped B w b code inV (at_ + s.size) (0, r)) := by
  have hc' : ((s[0].toNat : Nat) : Int) = 106 := by rw [hc]; rfl
  have htk : ∀ w : World, Calls Tryz.prog 96 #[.int .u8 106] w (Rets (.int .i64 1) (fun w' => w = w')) := fun w => takes_any 106 w
  have hpop := mpops h.drew hB 1 rfl (by omega) (by omega)
  have hs0 : (0 : Int) < s.size := by omega
  go_enter Tryz.func61, Tryz.ntmps61
  go_wp2_with (go_at_call 95; refine (number_any s _ (by unfold maxLen; omega)).mono ?_; rintro e w' ⟨rfl, rfl⟩)
  go_region_held3 (fun _ => True) (trivial) (first | (go_at_call 96; refine (htk _).mono ?_; rintro e w' ⟨rfl, rfl⟩) | (go_at_call 93; refine hpop.mono ?_; rintro e w1 ⟨lv, rfl, hch1, hlv, v1, hM1, hv1⟩))
  have c3 := hM1.cell3
  have f3 := frozen_of hM1.st.heap 3
  obtain ⟨g, cap, rfl, hcap, hgl⟩ := owns_some hlv (by decide)
  have hgw := (World.ownsRow.lt hlv g rfl).1
  have hgb : g ≠ b := by have := h.lt; simp at *; omega
  have hgv : v1.ownBlock ≠ some g := fun e => by have := hv1 g e; omega
  have e0 : w1.cell? ⟨g, 0, none⟩ = some (.string p0) := hlv.cellAt 0 (by omega)
  have hM2 := hM1.setAt (at_ + s.size)
  rw [Int.natCast_add] at hM2
  have k0 := ((Chg.refl (fun k => k = b) w1).setCell (p := ⟨b, 3, none⟩) (fun _ => rfl) (.int .i64 ((at_ : Int) + (s.size : Int)))).cell e0 hgb
  have hB3 : B ≤ (w1.setCell ⟨b, 3, none⟩ (.int .i64 ((at_ : Int) + (s.size : Int)))).heap.size := Nat.le_trans hB (by have := hch1.size; simpa [World.setCell] using this)
  have hgs := hid (show w1.heap.size = (w1.setCell ⟨b, 3, none⟩ (.int .i64 ((at_ : Int) + (s.size : Int)))).heap.size by simp [World.setCell])
  have hz1 : p0.toList.isEmpty = false := by
    have e : (p0.toList == (ByteArray.mk #[]).toList) = false := by rw [← beq_toListBytes, ba_eqM]; simp; exact hz
    have e2 : (ByteArray.mk #[]).toList = [] := by unfold ByteArray.toList ByteArray.toList.loop; simp [ByteArray.size]
    rw [e2] at e
    generalize p0.toList = q at e ⊢
    cases q with
    | nil => simp at e
    | cons => rfl
  go_wp2_with fail
  go_ret
  exact ⟨rfl, (((Chg.refl _ w).drew).trans hch1 (fun _ _ h => h)).setCell (p := ⟨b, 3, none⟩) (fun _ => h.hb) _, v1, hM2⟩
end Go.Proofs.YthglfmacjoecgaaGreatDoor
namespace Go.Proofs.YthglfmacjoecgaaGreatDoor
open Go.RowKit
theorem numN_lt (s : ByteArray) : numN s < 256 := by
  unfold numN
  split
  · exact UInt8.toNat_lt _
  · decide

set_option maxRecDepth 100000 in
set_option maxHeartbeats 2000000 in
theorem step_t {B : Nat} {w : World} {b : Nat} {v : Value} {code : ByteArray} {inV : Value} {at_ : Nat} {r : List ByteArray} {p0 : ByteArray} (h : MachV B w b v code inV at_ (r ++ [p0])) (hB : B ≤ w.heap.size) (hr : r.length ≤ 8) (h0 : p0.size ≤ 512) (hat : at_ ≤ 1000)
    (s : ByteArray) (hs1 : 1 ≤ s.size) (hs2 : s.size ≤ 300) (hc : s[0] = 116) :
    Calls Tryz.prog 61 #[.pointer (some ⟨b, 0, none⟩), .string s] w (Stepped B w b code inV (at_ + s.size) (pushR r [p0.extract 0 (min (numN s : Int) (p0.size : Int)).toNat])) := by
  have hc' : ((s[0].toNat : Nat) : Int) = 116 := by rw [hc]; rfl
  have htk : ∀ w : World, Calls Tryz.prog 96 #[.int .u8 116] w (Rets (.int .i64 1) (fun w' => w = w')) := fun w => takes_any 116 w
  have hpop := mpops h.drew hB 1 rfl (by omega) (by omega)
  have hs0 : (0 : Int) < s.size := by omega
  have hm0 : (0 : Int) ≤ min (numN s : Int) (p0.size : Int) := by omega
  have hm1 : min (numN s : Int) (p0.size : Int) ≤ (p0.size : Int) := by omega
  have hn0 : (0 : Int) ≤ (numN s : Int) := by omega
  have hnn := numN_lt s
  have hnn' : (numN s : Int) < 256 := by omega
  have hp5 : (p0.size : Int) ≤ 512 := by omega
  go_enter Tryz.func61, Tryz.ntmps61
  go_wp2_with (go_at_call 95; refine (number_any s _ (by unfold maxLen; omega)).mono ?_; rintro e w' ⟨rfl, rfl⟩)
  go_region_held3 (fun _ => True) (trivial) (first | (go_at_call 96; refine (htk _).mono ?_; rintro e w' ⟨rfl, rfl⟩) | (go_at_call 93; refine hpop.mono ?_; rintro e w1 ⟨lv, rfl, hch1, hlv, v1, hM1, hv1⟩))
  have c3 := hM1.cell3
  have f3 := frozen_of hM1.st.heap 3
  obtain ⟨g, cap, rfl, hcap, hgl⟩ := owns_some hlv (by decide)
  have hgw := (World.ownsRow.lt hlv g rfl).1
  have hgb : g ≠ b := by have := h.lt; simp at *; omega
  have hgv : v1.ownBlock ≠ some g := fun e => by have := hv1 g e; omega
  have e0 : w1.cell? ⟨g, 0, none⟩ = some (.string p0) := hlv.cellAt 0 (by omega)
  have hM2 := hM1.setAt (at_ + s.size)
  rw [Int.natCast_add] at hM2
  have k0 := ((Chg.refl (fun k => k = b) w1).setCell (p := ⟨b, 3, none⟩) (fun _ => rfl) (.int .i64 ((at_ : Int) + (s.size : Int)))).cell e0 hgb
  have hB3 : B ≤ (w1.setCell ⟨b, 3, none⟩ (.int .i64 ((at_ : Int) + (s.size : Int)))).heap.size := Nat.le_trans hB (by have := hch1.size; simpa [World.setCell] using this)
  have hgs := hid (show w1.heap.size = (w1.setCell ⟨b, 3, none⟩ (.int .i64 ((at_ : Int) + (s.size : Int)))).heap.size by simp [World.setCell])
  have hsz : ∀ x ∈ [p0.extract 0 (min (numN s : Int) (p0.size : Int)).toNat], x.size ≤ maxLen := by
    unfold maxLen; intro x hx; simp at hx; subst hx; simp; omega
  have k0' := cell_alloc_drew k0 (.cells #[.string (p0.extract 0 (min (numN s : Int) (p0.size : Int)).toNat)] 9)
  go_wp2_with fail
  go_region_held3 (fun w' => w'.cell? ⟨g, 0, none⟩ = some (.string p0)) (first | go_keep | exact k0' | exact hch3.cell k0 (fun h => h.elim hgb hgv)) (first | (go_at_call 97; refine (mpush_drew hM2 hB3 [p0.extract 0 (min (numN s : Int) (p0.size : Int)).toNat] (by simp) _ rfl _ _ _ hgs.out rfl hsz (by omega)).mono ?_; rintro e w' ⟨rfl, hch2, hch3, hM4⟩))
  go_wp2_with fail
  go_ret
  exact ⟨rfl, stepped hch1 hch2 h.hb, hM4⟩

set_option maxRecDepth 100000 in
set_option maxHeartbeats 2000000 in
theorem step_k {B : Nat} {w : World} {b : Nat} {v : Value} {code : ByteArray} {inV : Value} {at_ : Nat} {r : List ByteArray} {p0 : ByteArray} (h : MachV B w b v code inV at_ (r ++ [p0])) (hB : B ≤ w.heap.size) (hr : r.length ≤ 8) (h0 : p0.size ≤ 512) (hat : at_ ≤ 1000)
    (s : ByteArray) (hs1 : 1 ≤ s.size) (hs2 : s.size ≤ 300) (hc : s[0] = 107) :
    Calls Tryz.prog 61 #[.pointer (some ⟨b, 0, none⟩), .string s] w (Stepped B w b code inV (at_ + s.size) (pushR r [p0.extract (min (numN s : Int) (p0.size : Int)).toNat p0.size])) := by
  have hc' : ((s[0].toNat : Nat) : Int) = 107 := by rw [hc]; rfl
  have htk : ∀ w : World, Calls Tryz.prog 96 #[.int .u8 107] w (Rets (.int .i64 1) (fun w' => w = w')) := fun w => takes_any 107 w
  have hpop := mpops h.drew hB 1 rfl (by omega) (by omega)
  have hs0 : (0 : Int) < s.size := by omega
  have hm0 : (0 : Int) ≤ min (numN s : Int) (p0.size : Int) := by omega
  have hm1 : min (numN s : Int) (p0.size : Int) ≤ (p0.size : Int) := by omega
  have hn0 : (0 : Int) ≤ (numN s : Int) := by omega
  have hnn := numN_lt s
  have hnn' : (numN s : Int) < 256 := by omega
  have hp5 : (p0.size : Int) ≤ 512 := by omega
  go_enter Tryz.func61, Tryz.ntmps61
  go_wp2_with (go_at_call 95; refine (number_any s _ (by unfold maxLen; omega)).mono ?_; rintro e w' ⟨rfl, rfl⟩)
  go_region_held3 (fun _ => True) (trivial) (first | (go_at_call 96; refine (htk _).mono ?_; rintro e w' ⟨rfl, rfl⟩) | (go_at_call 93; refine hpop.mono ?_; rintro e w1 ⟨lv, rfl, hch1, hlv, v1, hM1, hv1⟩))
  have c3 := hM1.cell3
  have f3 := frozen_of hM1.st.heap 3
  obtain ⟨g, cap, rfl, hcap, hgl⟩ := owns_some hlv (by decide)
  have hgw := (World.ownsRow.lt hlv g rfl).1
  have hgb : g ≠ b := by have := h.lt; simp at *; omega
  have hgv : v1.ownBlock ≠ some g := fun e => by have := hv1 g e; omega
  have e0 : w1.cell? ⟨g, 0, none⟩ = some (.string p0) := hlv.cellAt 0 (by omega)
  have hM2 := hM1.setAt (at_ + s.size)
  rw [Int.natCast_add] at hM2
  have k0 := ((Chg.refl (fun k => k = b) w1).setCell (p := ⟨b, 3, none⟩) (fun _ => rfl) (.int .i64 ((at_ : Int) + (s.size : Int)))).cell e0 hgb
  have hB3 : B ≤ (w1.setCell ⟨b, 3, none⟩ (.int .i64 ((at_ : Int) + (s.size : Int)))).heap.size := Nat.le_trans hB (by have := hch1.size; simpa [World.setCell] using this)
  have hgs := hid (show w1.heap.size = (w1.setCell ⟨b, 3, none⟩ (.int .i64 ((at_ : Int) + (s.size : Int)))).heap.size by simp [World.setCell])
  have hsz : ∀ x ∈ [p0.extract (min (numN s : Int) (p0.size : Int)).toNat p0.size], x.size ≤ maxLen := by
    unfold maxLen; intro x hx; simp at hx; subst hx; simp; omega
  have k0' := cell_alloc_drew k0 (.cells #[.string (p0.extract (min (numN s : Int) (p0.size : Int)).toNat p0.size)] 9)
  go_wp2_with fail
  go_region_held3 (fun w' => w'.cell? ⟨g, 0, none⟩ = some (.string p0)) (first | go_keep | exact k0' | exact hch3.cell k0 (fun h => h.elim hgb hgv)) (first | (go_at_call 97; refine (mpush_drew hM2 hB3 [p0.extract (min (numN s : Int) (p0.size : Int)).toNat p0.size] (by simp) _ rfl _ _ _ hgs.out rfl hsz (by omega)).mono ?_; rintro e w' ⟨rfl, hch2, hch3, hM4⟩))
  go_wp2_with fail
  go_ret
  exact ⟨rfl, stepped hch1 hch2 h.hb, hM4⟩
end Go.Proofs.YthglfmacjoecgaaGreatDoor
namespace Go.Proofs.YthglfmacjoecgaaGreatDoor
open Go.RowKit
theorem cell_alloc {W : World} {a : Addr} {u : Value} (h : W.cell? a = some u) (o : Obj) : (W.alloc o).cell? a = some u :=
  ((Chg.refl (fun _ => False) W).alloc o).cell h (fun h => h)
/-- (*stack).push at a machine, the list just laid; what has changed. -/
theorem mpush_alloc {B : Nat} {w : World} {b : Nat} {v : Value} {code : ByteArray} {inV : Value} {at_ : Nat} {l : List ByteArray} (h : MachV B w b v code inV at_ l) (hB : B ≤ w.heap.size) (ss : List ByteArray) (hn2 : ss.length ≤ 100) (arr : Array Value) (ha : arr = (ss.map Value.string).toArray) (g n c : Nat) (hgw : g = w.heap.size) (hn : n = ss.length) (hsz : ∀ s ∈ ss, s.size ≤ maxLen) (hl : l.length ≤ 1000) :
    Calls Tryz.prog 97 #[.pointer (some ⟨b, 0, none⟩), .slice (some ⟨g, 0, none⟩) n c] (w.alloc (.cells arr 9))
      (Rets (.int .i64 (pushR l ss).1) (fun w' => Chg (fun k => B ≤ k) w w' ∧ Chg (fun k => k = b ∨ v.ownBlock = some k) w w' ∧ ∃ v', MachV B w' b v' code inV at_ (pushR l ss).2)) := by
  subst ha hn hgw
  have h' : MachV B (w.alloc (.cells (ss.map Value.string).toArray 9)) b v code inV at_ l := h.alloc _
  refine (push_any _ b v _ _ l h'.st w.heap.size _ c ss rfl hn2 ?_ ?_ ?_ hsz hl).mono ?_
  · intro i hi
    have : (w.alloc (.cells (ss.map Value.string).toArray 9)).heap[w.heap.size]? = some (.cells (ss.map Value.string).toArray 9 (0, 0)) := heap_alloc_new w _
    have := cell_of this i
    refine this.trans ?_
    simp [hi]
  · have := h.lt; omega
  · intro e; have := h.own_lt _ e; omega
  · rintro e w' ⟨rfl, ht⟩
    have hc : Chg (fun k => k = b ∨ v.ownBlock = some k) w w' := (((Chg.refl _ w).alloc _).trans (let ⟨_, _, _, h3⟩ := ht; h3) (fun _ _ h => h))
    obtain ⟨v', h1, h2⟩ := h'.to (by simp; omega) ht
    exact ⟨rfl, ((Chg.refl _ w).alloc _).trans h2 (fun _ _ h => h), hc, v', h1⟩
def itoaS (n : Nat) : ByteArray := ⟨(Lib.itoa (n : Int)).toArray⟩
theorem grow_chg (w : World) (k : Nat) (os : Array Obj) : Chg (fun _ => False) w (Sort.grow (w.drewN k) os) :=
  ⟨rfl, rfl, rfl, by simp [Sort.grow, World.drewN], fun i hi _ => by simp [Sort.grow, World.drewN, Array.getElem?_append, hi]⟩
theorem tabIs_chg {F : Nat → Prop} {w w' : World} {name : String} {k : IntKind} {zs : List Int} {g : Nat} (hg : Tryz.prog.globalNamed name = some g) (h : Lib.TabIs Tryz.prog w name k zs) (hc : Chg F w w') (hF : ¬ F g) : Lib.TabIs Tryz.prog w' name k zs := by
  unfold Lib.TabIs World.var? at h ⊢
  rw [hg] at h ⊢
  simp only [Option.bind_some] at h ⊢
  cases hb : w.heap[g]? with
  | none => simp [hb] at h
  | some o => rw [hb] at h; rw [hc.obj hb hF]; exact h
theorem itoa_any (n : Nat) (hn : n ≤ 1000) (w : World) (ht : Lib.TabIs Tryz.prog w "internal/strconv.uint64pow10" .u64 Lib.pow10Tab) :
    Calls Tryz.prog 99 #[.int .i64 n] w (Rets (.string (itoaS n)) (Chg (fun _ => False) w)) :=
  (Tryz.strconv_Itoa n (by omega) (by omega) w ht).mono fun _ _ ⟨he, k, os, hw⟩ => ⟨he, hw ▸ grow_chg w k os⟩
theorem decDigits_le : ∀ (u : Nat), (Lib.decDigits u).length ≤ u + 1 := by
  intro u
  induction u using Nat.strongRecOn with
  | ind u ih =>
    rw [Lib.decDigits]
    split
    · simp
    · have := ih (u / 10) (by omega)
      simp only [List.length_append, List.length_cons, List.length_nil]
      omega
theorem itoaS_size (n : Nat) : (itoaS n).size ≤ n + 1 := by
  have : Lib.itoa (n : Int) = Lib.decDigits n := by unfold Lib.itoa; rw [if_neg (by omega)]; rfl
  unfold itoaS
  rw [this]
  exact decDigits_le n

set_option maxRecDepth 100000 in
set_option maxHeartbeats 2000000 in
theorem step_r {B : Nat} {w : World} {b : Nat} {v : Value} {code : ByteArray} {inV : Value} {at_ : Nat} {r : List ByteArray} {p0 : ByteArray} (h : MachV B w b v code inV at_ (r ++ [p0])) (hB : B ≤ w.heap.size) (hr : r.length ≤ 8) (h0 : p0.size ≤ 512) (hat : at_ ≤ 1000)
    (s : ByteArray) (hs1 : 1 ≤ s.size) (hs2 : s.size ≤ 300) (hc : s[0] = 114) :
    Calls Tryz.prog 61 #[.pointer (some ⟨b, 0, none⟩), .string s] w (Stepped B w b code inV (at_ + s.size) (pushR r [revS p0])) := by
  have hc' : ((s[0].toNat : Nat) : Int) = 114 := by rw [hc]; rfl
  have htk : ∀ w : World, Calls Tryz.prog 96 #[.int .u8 114] w (Rets (.int .i64 1) (fun w' => w = w')) := fun w => takes_any 114 w
  have hpop := mpops h.drew hB 1 rfl (by omega) (by omega)
  have hs0 : (0 : Int) < s.size := by omega
  go_enter Tryz.func61, Tryz.ntmps61
  go_wp2_with (go_at_call 95; refine (number_any s _ (by unfold maxLen; omega)).mono ?_; rintro e w' ⟨rfl, rfl⟩)
  go_region_held3 (fun _ => True) (trivial) (first | (go_at_call 96; refine (htk _).mono ?_; rintro e w' ⟨rfl, rfl⟩) | (go_at_call 93; refine hpop.mono ?_; rintro e w1 ⟨lv, rfl, hch1, hlv, v1, hM1, hv1⟩))
  have c3 := hM1.cell3
  have f3 := frozen_of hM1.st.heap 3
  obtain ⟨g, cap, rfl, hcap, hgl⟩ := owns_some hlv (by decide)
  have hgw := (World.ownsRow.lt hlv g rfl).1
  have hgb : g ≠ b := by have := h.lt; simp at *; omega
  have hgv : v1.ownBlock ≠ some g := fun e => by have := hv1 g e; omega
  have e0 : w1.cell? ⟨g, 0, none⟩ = some (.string p0) := hlv.cellAt 0 (by omega)
  have hM2 := hM1.setAt (at_ + s.size)
  rw [Int.natCast_add] at hM2
  have k0 := ((Chg.refl (fun k => k = b) w1).setCell (p := ⟨b, 3, none⟩) (fun _ => rfl) (.int .i64 ((at_ : Int) + (s.size : Int)))).cell e0 hgb
  have hB3 : B ≤ (w1.setCell ⟨b, 3, none⟩ (.int .i64 ((at_ : Int) + (s.size : Int)))).heap.size := Nat.le_trans hB (by have := hch1.size; simpa [World.setCell] using this)
  have hgs := hid (show w1.heap.size = (w1.setCell ⟨b, 3, none⟩ (.int .i64 ((at_ : Int) + (s.size : Int)))).heap.size by simp [World.setCell])
  have hsz : ∀ x ∈ [revS p0], x.size ≤ maxLen := by
    unfold maxLen; intro x hx; simp at hx; subst hx; rw [revS_size]; omega
  have hW : Chg (fun k => B ≤ k) w.drew (w1.setCell ⟨b, 3, none⟩ (.int .i64 ((at_ : Int) + (s.size : Int)))).drew := (hch1.setCell (p := ⟨b, 3, none⟩) (fun _ => h.hb) _).drew
  go_wp2_with fail
  go_region_held3 (fun w' => w'.cell? ⟨g, 0, none⟩ = some (.string p0)) (first | exact q0 | exact q0' | exact hch3.cell q0 (fun h => h.elim hgb hgv) | go_keep) (first | (go_at_call 98; refine (turned_any p0 _ (by unfold maxLen; omega)).mono ?_; rintro e w3 ⟨rfl, hch4⟩; have hM5 := hM2.drew.chg hch4 (fun _ _ h => h); have hB5 := Nat.le_trans hB3 hch4.size; have q0 := hch4.cell (p := ⟨g, 0, none⟩) k0 (fun h => h); have q0' := cell_alloc q0 (.cells #[.string (revS p0)] 9)) | (go_at_call 97; refine (mpush_alloc hM5 hB5 [revS p0] (by simp) _ rfl _ _ _ rfl rfl hsz (by omega)).mono ?_; rintro e w' ⟨rfl, hch2, hch3, hM4⟩))
  go_wp2_with fail
  go_ret
  exact ⟨rfl, ((((Chg.refl _ w).drew).trans hW (fun _ _ h => h)).trans (hch4.mono (fun _ _ h => h.elim)) (fun _ _ h => h)).trans hch2 (fun _ _ h => h), hM4⟩

set_option maxRecDepth 100000 in
set_option maxHeartbeats 2000000 in
theorem step_l {B : Nat} {w : World} {b : Nat} {v : Value} {code : ByteArray} {inV : Value} {at_ : Nat} {r : List ByteArray} {p0 : ByteArray} (h : MachV B w b v code inV at_ (r ++ [p0])) (hB : B ≤ w.heap.size) (hr : r.length ≤ 8) (h0 : p0.size ≤ 512) (hat : at_ ≤ 1000)
    (s : ByteArray) (hs1 : 1 ≤ s.size) (hs2 : s.size ≤ 300) (hc : s[0] = 108) (hT : Lib.TabIs Tryz.prog w "internal/strconv.uint64pow10" .u64 Lib.pow10Tab) (gt : Nat) (hgt : Tryz.prog.globalNamed "internal/strconv.uint64pow10" = some gt) (hgB : gt < B) :
    Calls Tryz.prog 61 #[.pointer (some ⟨b, 0, none⟩), .string s] w (Stepped B w b code inV (at_ + s.size) (pushR r [itoaS p0.size])) := by
  have hc' : ((s[0].toNat : Nat) : Int) = 108 := by rw [hc]; rfl
  have htk : ∀ w : World, Calls Tryz.prog 96 #[.int .u8 108] w (Rets (.int .i64 1) (fun w' => w = w')) := fun w => takes_any 108 w
  have hpop := mpops h.drew hB 1 rfl (by omega) (by omega)
  have hs0 : (0 : Int) < s.size := by omega
  go_enter Tryz.func61, Tryz.ntmps61
  go_wp2_with (go_at_call 95; refine (number_any s _ (by unfold maxLen; omega)).mono ?_; rintro e w' ⟨rfl, rfl⟩)
  go_region_held3 (fun _ => True) (trivial) (first | (go_at_call 96; refine (htk _).mono ?_; rintro e w' ⟨rfl, rfl⟩) | (go_at_call 93; refine hpop.mono ?_; rintro e w1 ⟨lv, rfl, hch1, hlv, v1, hM1, hv1⟩))
  have c3 := hM1.cell3
  have f3 := frozen_of hM1.st.heap 3
  obtain ⟨g, cap, rfl, hcap, hgl⟩ := owns_some hlv (by decide)
  have hgw := (World.ownsRow.lt hlv g rfl).1
  have hgb : g ≠ b := by have := h.lt; simp at *; omega
  have hgv : v1.ownBlock ≠ some g := fun e => by have := hv1 g e; omega
  have e0 : w1.cell? ⟨g, 0, none⟩ = some (.string p0) := hlv.cellAt 0 (by omega)
  have hM2 := hM1.setAt (at_ + s.size)
  rw [Int.natCast_add] at hM2
  have k0 := ((Chg.refl (fun k => k = b) w1).setCell (p := ⟨b, 3, none⟩) (fun _ => rfl) (.int .i64 ((at_ : Int) + (s.size : Int)))).cell e0 hgb
  have hB3 : B ≤ (w1.setCell ⟨b, 3, none⟩ (.int .i64 ((at_ : Int) + (s.size : Int)))).heap.size := Nat.le_trans hB (by have := hch1.size; simpa [World.setCell] using this)
  have hgs := hid (show w1.heap.size = (w1.setCell ⟨b, 3, none⟩ (.int .i64 ((at_ : Int) + (s.size : Int)))).heap.size by simp [World.setCell])
  have hsz : ∀ x ∈ [itoaS p0.size], x.size ≤ maxLen := by
    unfold maxLen; intro x hx; simp at hx; subst hx; have := itoaS_size p0.size; omega
  have hW : Chg (fun k => B ≤ k) w.drew (w1.setCell ⟨b, 3, none⟩ (.int .i64 ((at_ : Int) + (s.size : Int)))).drew := (hch1.setCell (p := ⟨b, 3, none⟩) (fun _ => h.hb) _).drew
  go_wp2_with fail
  go_region_held3 (fun w' => w'.cell? ⟨g, 0, none⟩ = some (.string p0)) (first | exact q0 | exact q0' | exact hch3.cell q0 (fun h => h.elim hgb hgv) | go_keep) (first | (go_at_call 99; refine (itoa_any p0.size (by omega) _ (tabIs_chg (g := gt) hgt hT (((Chg.refl _ w).drew).trans hW (fun _ _ h => h)) (by omega))).mono ?_; rintro e w3 ⟨rfl, hch4⟩; have hM5 := hM2.drew.chg hch4 (fun _ _ h => h); have hB5 := Nat.le_trans hB3 hch4.size; have q0 := hch4.cell (p := ⟨g, 0, none⟩) k0 (fun h => h); have q0' := cell_alloc q0 (.cells #[.string (itoaS p0.size)] 9)) | (go_at_call 97; refine (mpush_alloc hM5 hB5 [itoaS p0.size] (by simp) _ rfl _ _ _ rfl rfl hsz (by omega)).mono ?_; rintro e w' ⟨rfl, hch2, hch3, hM4⟩))
  go_wp2_with fail
  go_ret
  exact ⟨rfl, ((((Chg.refl _ w).drew).trans hW (fun _ _ h => h)).trans (hch4.mono (fun _ _ h => h.elim)) (fun _ _ h => h)).trans hch2 (fun _ _ h => h), hM4⟩
end Go.Proofs.YthglfmacjoecgaaGreatDoor
namespace Go.Proofs.YthglfmacjoecgaaGreatDoor
open Go.RowKit

set_option maxRecDepth 100000 in
set_option maxHeartbeats 2000000 in
theorem step_i {B : Nat} {w : World} {b : Nat} {v : Value} {code : ByteArray} {inV : Value} {at_ : Nat} {r : List ByteArray} (h : MachV B w b v code inV at_ (r ++ [])) (hB : B ≤ w.heap.size) (hr : r.length ≤ 8) (hat : at_ ≤ 1000)
    (s : ByteArray) (hs1 : 1 ≤ s.size) (hs2 : s.size ≤ 300) (hc : s[0] = 105) {ins : List ByteArray} {w0 : World} (hin : StrsAt w0 inV ins) (hw0 : w0.heap.size ≤ B) (hc0 : Chg (fun k => B ≤ k) w0 w) (hn : numN s < ins.length) :
    Calls Tryz.prog 61 #[.pointer (some ⟨b, 0, none⟩), .string s] w (Stepped B w b code inV (at_ + s.size) (pushR r [ins[numN s]])) := by
  have hc' : ((s[0].toNat : Nat) : Int) = 105 := by rw [hc]; rfl
  have htk : ∀ w : World, Calls Tryz.prog 96 #[.int .u8 105] w (Rets (.int .i64 0) (fun w' => w = w')) := fun w => takes_any 105 w
  have hpop := mpops h.drew hB 0 rfl (by omega) (by omega)
  have hs0 : (0 : Int) < s.size := by omega
  have hn' : (numN s : Int) < (ins.length : Int) := by omega
  have hlenI := fun W ty => hin.len (P := Tryz.prog) Tryz.underlying22 W ty
  obtain ⟨ad, hix, hadc, hadb⟩ := hin.ix (P := Tryz.prog) Tryz.underlying22 Tryz.sizeOf9 (numN s) hn
  have c2 := h.cell2
  have hadB : ad.block < B := by omega
  have hadS := hin.2.2 _ (List.getElem_mem hn)
  go_enter Tryz.func61, Tryz.ntmps61
  go_wp2_with (go_at_call 95; refine (number_any s _ (by unfold maxLen; omega)).mono ?_; rintro e w' ⟨rfl, rfl⟩)
  go_region_held3 (fun _ => True) (trivial) (first | (go_at_call 96; refine (htk _).mono ?_; rintro e w' ⟨rfl, rfl⟩) | (go_at_call 93; refine hpop.mono ?_; rintro e w1 ⟨lv, rfl, hch1, hlv, v1, hM1, hv1⟩))
  have c3 := hM1.cell3
  have f3 := frozen_of hM1.st.heap 3
  have hM2 := hM1.setAt (at_ + s.size)
  rw [Int.natCast_add] at hM2
  have hB3 : B ≤ (w1.setCell ⟨b, 3, none⟩ (.int .i64 ((at_ : Int) + (s.size : Int)))).heap.size := Nat.le_trans hB (by have := hch1.size; simpa [World.setCell] using this)
  have hgs := hid (show w1.heap.size = (w1.setCell ⟨b, 3, none⟩ (.int .i64 ((at_ : Int) + (s.size : Int)))).heap.size by simp [World.setCell])
  have hW : Chg (fun k => B ≤ k) w.drew (w1.setCell ⟨b, 3, none⟩ (.int .i64 ((at_ : Int) + (s.size : Int)))) := hch1.setCell (p := ⟨b, 3, none⟩) (fun _ => h.hb) _
  have k0 : (w1.setCell ⟨b, 3, none⟩ (.int .i64 ((at_ : Int) + (s.size : Int)))).cell? ⟨b, 2, none⟩ = some inV := hM2.cell2
  have k1 : (w1.setCell ⟨b, 3, none⟩ (.int .i64 ((at_ : Int) + (s.size : Int)))).cell? ad = some (.string ins[numN s]) := (hc0.trans ((((Chg.refl _ w).drew).trans hW (fun _ _ h => h))) (fun _ _ h => h)).cell hadc (by simp; omega)
  have hsz : ∀ x ∈ [ins[numN s]], x.size ≤ maxLen := by
    intro x hx; simp at hx; subst hx; exact hadS
  have k0' := cell_alloc_drew k0 (.cells #[.string ins[numN s]] 9)
  have k1' := cell_alloc_drew k1 (.cells #[.string ins[numN s]] 9)
  go_wp2_with fail
  go_region_held3 (fun w' => w'.cell? ⟨b, 2, none⟩ = some inV ∧ w'.cell? ad = some (.string ins[numN s])) (first | go_keep | exact ⟨k0', k1'⟩ | (obtain ⟨v4, hM5⟩ := hM4; exact ⟨hM5.cell2, hch2.cell k1 (by simp; omega)⟩)) (first | (go_at_call 97; refine (mpush_drew hM2 hB3 [ins[numN s]] (by simp) _ rfl _ _ _ hgs.out rfl hsz (by omega)).mono ?_; rintro e w' ⟨rfl, hch2, hch3, hM4⟩))
  go_wp2_with fail
  go_ret
  exact ⟨rfl, stepped hch1 hch2 h.hb, hM4⟩

set_option maxRecDepth 100000 in
set_option maxHeartbeats 2000000 in
theorem step_bad {B : Nat} {w : World} {b : Nat} {v : Value} {code : ByteArray} {inV : Value} {at_ : Nat} {l : List ByteArray} (h : MachV B w b v code inV at_ l)
    (s : ByteArray) (hs1 : 1 ≤ s.size) (hs2 : s.size ≤ 300) (hc : s[0] = 105) {ins : List ByteArray} {w0 : World} (hin : StrsAt w0 inV ins) (hn : ins.length ≤ numN s) :
    Calls Tryz.prog 61 #[.pointer (some ⟨b, 0, none⟩), .string s] w (Stepped B w b code inV at_ (32, l)) := by
  have hc' : ((s[0].toNat : Nat) : Int) = 105 := by rw [hc]; rfl
  have hn' : (ins.length : Int) ≤ (numN s : Int) := by omega
  have hlenI := fun W ty => hin.len (P := Tryz.prog) Tryz.underlying22 W ty
  have c2 := h.cell2
  have hs0 : (0 : Int) < s.size := by omega
  go_enter Tryz.func61, Tryz.ntmps61
  go_wp2_with (go_at_call 95; refine (number_any s _ (by unfold maxLen; omega)).mono ?_; rintro e w' ⟨rfl, rfl⟩)
  go_ret
  exact ⟨rfl, Chg.refl _ w, v, h⟩

set_option maxRecDepth 100000 in
set_option maxHeartbeats 2000000 in
theorem step_few {B : Nat} {w : World} {b : Nat} {v : Value} {code : ByteArray} {inV : Value} {at_ : Nat} {l : List ByteArray} (h : MachV B w b v code inV at_ l)
    (s : ByteArray) (hs1 : 1 ≤ s.size) (hs2 : s.size ≤ 300) (hc : s[0] ≠ 105) (hl : l.length < takeN s[0]) :
    Calls Tryz.prog 61 #[.pointer (some ⟨b, 0, none⟩), .string s] w (Stepped B w b code inV at_ (31, l)) := by
  have hc' : ((s[0].toNat : Int) == 105) = false := by
    simp
    intro e
    exact hc (UInt8.toNat_inj.1 (by have : (105 : UInt8).toNat = 105 := rfl; omega))
  have htk : ∀ w : World, Calls Tryz.prog 96 #[.int .u8 s[0].toNat] w (Rets (.int .i64 (takeN s[0])) (fun w' => w = w')) := fun w => takes_any s[0] w
  have ht2 : takeN s[0] ≤ 2 := by unfold takeN; split <;> (try split) <;> omega
  have hpop := pop_less w.drew b v _ _ l h.drew.st (takeN s[0]) hl ht2
  have hs0 : (0 : Int) < s.size := by omega
  go_enter Tryz.func61, Tryz.ntmps61
  go_wp2_with (go_at_call 95; refine (number_any s _ (by unfold maxLen; omega)).mono ?_; rintro e w' ⟨rfl, rfl⟩)
  go_region_held3 (fun _ => True) (trivial) (first | (go_at_call 96; refine (htk _).mono ?_; rintro e w' ⟨rfl, rfl⟩) | (go_at_call 93; refine hpop.mono ?_; rintro e w1 ⟨rfl, rfl⟩))
  go_wp2_with fail
  go_ret
  exact ⟨rfl, (Chg.refl _ w).drew, v, h.drew⟩
end Go.Proofs.YthglfmacjoecgaaGreatDoor
namespace Go.Proofs.YthglfmacjoecgaaGreatDoor
open Go.RowKit

/-- The tables that step reads (laid once; blocks below B). -/
def gPow : Nat := 2
theorem powG : Tryz.prog.globalNamed "internal/strconv.uint64pow10" = some gPow := by kernel_rfl
def gWds : Nat := 0
theorem wdsG : Tryz.prog.globalNamed "apiary/stamp.words" = some gWds := by kernel_rfl
def wordsTab : List Int := [1116352408, 1899447441, 3049323471, 3921009573, 961987163, 1508970993, 2453635748, 2870763221, 3624381080, 310598401, 607225278, 1426881987, 1925078388, 2162078206, 2614888103, 3248222580, 3835390401, 4022224774, 264347078, 604807628, 770255983, 1249150122, 1555081692, 1996064986, 2554220882, 2821834349, 2952996808, 3210313671, 3336571891, 3584528711, 113926993, 338241895, 666307205, 773529912, 1294757372, 1396182291, 1695183700, 1986661051, 2177026350, 2456956037, 2730485921, 2820302411, 3259730800, 3345764771, 3516065817, 3600352804, 4094571909, 275423344, 430227734, 506948616, 659060556, 883997877, 958139571, 1322822218, 1537002063, 1747873779, 1955562222, 2024104815, 2227730452, 2361852424, 2428436474, 2756734187, 3204031479, 3329325298]
structure TabsOK (B : Nat) (w : World) : Prop where
  pow : Lib.TabIs Tryz.prog w "internal/strconv.uint64pow10" .u64 Lib.pow10Tab
  wds : Lib.TabIs Tryz.prog w "apiary/stamp.words" .u32 wordsTab
  gp : gPow < B
  gw : gWds < B
theorem TabsOK.chg {B : Nat} {w w' : World} (h : TabsOK B w) (hc : Chg (fun k => B ≤ k) w w') : TabsOK B w' :=
  ⟨tabIs_chg powG h.pow hc (by have := h.gp; omega), tabIs_chg wdsG h.wds hc (by have := h.gw; omega), h.gp, h.gw⟩

/-- A letter that begins a step. -/
def okL (c : UInt8) : Bool := plainB c || numB c || c == 112
theorem okL_mem (c : UInt8) (h : okL c = true) : c = 99 ∨ c = 100 ∨ c = 115 ∨ c = 120 ∨ c = 114 ∨ c = 104 ∨ c = 108 ∨ c = 61 ∨ c = 105 ∨ c = 116 ∨ c = 107 ∨ c = 106 ∨ c = 103 ∨ c = 112 := by
  have key : ∀ n : Fin 256, okL (UInt8.ofNat n.1) = true → (n.1 = 99 ∨ n.1 = 100 ∨ n.1 = 115 ∨ n.1 = 120 ∨ n.1 = 114 ∨ n.1 = 104 ∨ n.1 = 108 ∨ n.1 = 61 ∨ n.1 = 105 ∨ n.1 = 116 ∨ n.1 = 107 ∨ n.1 = 106 ∨ n.1 = 103 ∨ n.1 = 112) := by decide +kernel
  have h1 := key ⟨c.toNat, c.toNat_lt⟩ (by simpa using h)
  simp only at h1
  have e : ∀ k : Nat, c.toNat = k → c = UInt8.ofNat k := fun k hk => by rw [← hk]; simp
  rcases h1 with h | h | h | h | h | h | h | h | h | h | h | h | h | h <;> (have := e _ h; subst this; decide)

def putsR (H : ByteArray → ByteArray) (ins : List ByteArray) (c : UInt8) (n : Nat) (s a b : ByteArray) : List ByteArray :=
  if c = 105 then [ins.getD n .empty] else if c = 112 then [s.extract 2 s.size] else if c = 99 then [a ++ b] else if c = 100 then [a, a] else if c = 115 then [b, a] else if c = 114 then [revS a]
  else if c = 104 then [H a] else if c = 108 then [itoaS a.size] else if c = 116 then [a.extract 0 (min (n : Int) (a.size : Int)).toNat] else if c = 107 then [a.extract (min (n : Int) (a.size : Int)).toNat a.size]
  else if c = 61 then [sameS a b] else []
def goesR (c : UInt8) (n k : Nat) (a : ByteArray) : Nat := if c = 103 then n else if c = 106 then (if a = ByteArray.empty then n else k) else k
/-- What a step leaves: its code, where it goes on, the stack. -/
def stepRM (H : ByteArray → ByteArray) (ins : List ByteArray) (c : UInt8) (n : Nat) (s : ByteArray) (at_ : Nat) (l : List ByteArray) : Nat × Nat × List ByteArray :=
  if c = 105 ∧ ins.length ≤ n then (32, at_, l) else if l.length < takeN c then (31, at_, l)
  else
    let r := l.take (l.length - takeN c)
    let p := l.drop (l.length - takeN c)
    let q := pushR r (putsR H ins c n s (p.getD 0 .empty) (p.getD 1 .empty))
    (q.1, goesR c n (at_ + s.size) (p.getD 0 .empty), q.2)

theorem split1 {l : List ByteArray} (h : 1 ≤ l.length) : l.take (l.length - 1) ++ [(l.drop (l.length - 1)).getD 0 .empty] = l := by
  have h1 : (l.drop (l.length - 1)).length = 1 := by simp; omega
  obtain ⟨a, ha⟩ := List.length_eq_one_iff.1 h1
  have := List.take_append_drop (l.length - 1) l
  rw [ha] at this ⊢
  simpa using this
theorem split2 {l : List ByteArray} (h : 2 ≤ l.length) : l.take (l.length - 2) ++ [(l.drop (l.length - 2)).getD 0 .empty, (l.drop (l.length - 2)).getD 1 .empty] = l := by
  have h1 : (l.drop (l.length - 2)).length = 2 := by simp; omega
  obtain ⟨a, b, ha⟩ : ∃ a b, l.drop (l.length - 2) = [a, b] := by
    match hd : l.drop (l.length - 2), h1 with
    | [a, b], _ => exact ⟨a, b, rfl⟩
  have := List.take_append_drop (l.length - 2) l
  rw [ha] at this ⊢
  simpa using this
theorem mem1 {l : List ByteArray} (_ : 1 ≤ l.length) {k : Nat} (hk : 1 ≤ k) (hk2 : k ≤ l.length) (i : Nat) (hi : i < k) : (l.drop (l.length - k)).getD i .empty ∈ l := by
  have hl : i < (l.drop (l.length - k)).length := by simp; omega
  rw [List.getD_eq_getElem?_getD, List.getElem?_eq_getElem hl]
  exact List.mem_of_mem_drop (List.getElem_mem hl)

/-- The call of step with the letter 'h', said of any machine. -/
def StepH (H : ByteArray → ByteArray) : Prop :=
  ∀ {B : Nat} {w : World} {b : Nat} {v : Value} {code : ByteArray} {inV : Value} {at_ : Nat} {r : List ByteArray} {p0 : ByteArray} (_ : MachV B w b v code inV at_ (r ++ [p0])) (_ : B ≤ w.heap.size) (_ : r.length ≤ 8) (_ : p0.size ≤ 512) (_ : at_ ≤ 1000)
    (s : ByteArray) (_ : 1 ≤ s.size) (_ : s.size ≤ 300) (_ : s[0] = 104) (_ : TabsOK B w),
    Calls Tryz.prog 61 #[.pointer (some ⟨b, 0, none⟩), .string s] w (Stepped B w b code inV (at_ + s.size) (pushR r [H p0]))

theorem step_any (H : ByteArray → ByteArray) {B : Nat} {w : World} {b : Nat} {v : Value} {code : ByteArray} {inV : Value} {at_ : Nat} {l : List ByteArray} (h : MachV B w b v code inV at_ l) (hB : B ≤ w.heap.size) (hl : l.length ≤ 8) (hall : ∀ x ∈ l, x.size ≤ 512) (hat : at_ ≤ 1000)
    (s : ByteArray) (hs1 : 1 ≤ s.size) (hs2 : s.size ≤ 300) (hok : okL s[0] = true) (hp : s[0] = 112 → 2 ≤ s.size) {ins : List ByteArray} {w0 : World} (hin : StrsAt w0 inV ins) (hw0 : w0.heap.size ≤ B) (hc0 : Chg (fun k => B ≤ k) w0 w) (hT : TabsOK B w)
    (hH : s[0] = 104 → StepH H) :
    Calls Tryz.prog 61 #[.pointer (some ⟨b, 0, none⟩), .string s] w (Stepped B w b code inV (stepRM H ins s[0] (numN s) s at_ l).2.1 ((stepRM H ins s[0] (numN s) s at_ l).1, (stepRM H ins s[0] (numN s) s at_ l).2.2)) := by
  by_cases hi : s[0] = 105 ∧ ins.length ≤ numN s
  · unfold stepRM
    rw [if_pos hi]
    exact step_bad h s hs1 hs2 hi.1 hin hi.2
  by_cases hf : l.length < takeN s[0]
  · have hne : s[0] ≠ 105 := by intro e; rw [e] at hf; exact absurd hf (by show ¬ l.length < 0; omega)
    unfold stepRM
    rw [if_neg hi, if_pos hf]
    exact step_few h s hs1 hs2 hne hf
  have hr : ∀ k, (l.take (l.length - k)).length ≤ 8 := fun k => by simp; omega
  rcases okL_mem _ hok with e | e | e | e | e | e | e | e | e | e | e | e | e | e
  all_goals (unfold stepRM; rw [if_neg hi, if_neg hf]; rw [e] at hf ⊢)
  · have h2 : 2 ≤ l.length := Nat.le_of_not_lt hf
    exact step_c (by rw [show takeN 99 = 2 from rfl, split2 h2]; exact h) hB (hr _) (hall _ (mem1 (by omega) (by decide) h2 0 (by decide))) (hall _ (mem1 (by omega) (by decide) h2 1 (by decide))) hat s hs1 hs2 e
  · have h2 : 1 ≤ l.length := Nat.le_of_not_lt hf
    exact step_d (by rw [show takeN 100 = 1 from rfl, split1 h2]; exact h) hB (hr _) (hall _ (mem1 (by omega) (by decide) h2 0 (by decide))) hat s hs1 hs2 e
  · have h2 : 2 ≤ l.length := Nat.le_of_not_lt hf
    exact step_s (by rw [show takeN 115 = 2 from rfl, split2 h2]; exact h) hB (hr _) (hall _ (mem1 (by omega) (by decide) h2 0 (by decide))) (hall _ (mem1 (by omega) (by decide) h2 1 (by decide))) hat s hs1 hs2 e
  · have h2 : 1 ≤ l.length := Nat.le_of_not_lt hf
    exact step_x (p0 := (l.drop (l.length - 1)).getD 0 .empty) (by rw [show takeN 120 = 1 from rfl, split1 h2]; exact h) hB (hr _) (hall _ (mem1 (by omega) (by decide) h2 0 (by decide))) hat s hs1 hs2 e
  · have h2 : 1 ≤ l.length := Nat.le_of_not_lt hf
    exact step_r (by rw [show takeN 114 = 1 from rfl, split1 h2]; exact h) hB (hr _) (hall _ (mem1 (by omega) (by decide) h2 0 (by decide))) hat s hs1 hs2 e
  · have h2 : 1 ≤ l.length := Nat.le_of_not_lt hf
    exact hH e (by rw [show takeN 104 = 1 from rfl, split1 h2]; exact h) hB (hr _) (hall _ (mem1 (by omega) (by decide) h2 0 (by decide))) hat s hs1 hs2 e hT
  · have h2 : 1 ≤ l.length := Nat.le_of_not_lt hf
    exact step_l (by rw [show takeN 108 = 1 from rfl, split1 h2]; exact h) hB (hr _) (hall _ (mem1 (by omega) (by decide) h2 0 (by decide))) hat s hs1 hs2 e hT.pow _ powG hT.gp
  · have h2 : 2 ≤ l.length := Nat.le_of_not_lt hf
    exact step_eq (by rw [show takeN 61 = 2 from rfl, split2 h2]; exact h) hB (hr _) (hall _ (mem1 (by omega) (by decide) h2 0 (by decide))) (hall _ (mem1 (by omega) (by decide) h2 1 (by decide))) hat s hs1 hs2 e
  · have hn : numN s < ins.length := Nat.lt_of_not_le fun hh => hi ⟨e, hh⟩
    have h3 : l.take (l.length - takeN 105) = l := by rw [show takeN 105 = 0 from rfl]; simp
    have := step_i (r := l) (by rw [List.append_nil]; exact h) hB hl hat s hs1 hs2 e hin hw0 hc0 hn
    have e2 : ∀ a b, putsR H ins 105 (numN s) s a b = [ins[numN s]] := fun a b => by
      show [ins.getD (numN s) .empty] = _
      rw [List.getD_eq_getElem?_getD, List.getElem?_eq_getElem hn]; rfl
    simp only [h3, e2]
    exact this
  · have h2 : 1 ≤ l.length := Nat.le_of_not_lt hf
    exact step_t (by rw [show takeN 116 = 1 from rfl, split1 h2]; exact h) hB (hr _) (hall _ (mem1 (by omega) (by decide) h2 0 (by decide))) hat s hs1 hs2 e
  · have h2 : 1 ≤ l.length := Nat.le_of_not_lt hf
    exact step_k (by rw [show takeN 107 = 1 from rfl, split1 h2]; exact h) hB (hr _) (hall _ (mem1 (by omega) (by decide) h2 0 (by decide))) hat s hs1 hs2 e
  · have h2 : 1 ≤ l.length := Nat.le_of_not_lt hf
    by_cases hz : (l.drop (l.length - 1)).getD 0 .empty = ByteArray.empty
    · have e2 : goesR 106 (numN s) (at_ + s.size) ((l.drop (l.length - takeN 106)).getD 0 .empty) = numN s := by
        show (if (l.drop (l.length - 1)).getD 0 .empty = ByteArray.empty then _ else _) = _
        rw [if_pos hz]
      show Calls _ _ _ _ (Stepped _ _ _ _ _ (goesR 106 (numN s) (at_ + s.size) ((l.drop (l.length - takeN 106)).getD 0 .empty)) _)
      rw [e2]
      exact step_j0 (by rw [show takeN 106 = 1 from rfl, split1 h2]; exact h) hB (hr _) (hall _ (mem1 (by omega) (by decide) h2 0 (by decide))) hat s hs1 hs2 e hz
    · have e2 : goesR 106 (numN s) (at_ + s.size) ((l.drop (l.length - takeN 106)).getD 0 .empty) = at_ + s.size := by
        show (if (l.drop (l.length - 1)).getD 0 .empty = ByteArray.empty then _ else _) = _
        rw [if_neg hz]
      show Calls _ _ _ _ (Stepped _ _ _ _ _ (goesR 106 (numN s) (at_ + s.size) ((l.drop (l.length - takeN 106)).getD 0 .empty)) _)
      rw [e2]
      exact step_j1 (by rw [show takeN 106 = 1 from rfl, split1 h2]; exact h) hB (hr _) (hall _ (mem1 (by omega) (by decide) h2 0 (by decide))) hat s hs1 hs2 e hz
  · have h3 : l.take (l.length - takeN 103) = l := by rw [show takeN 103 = 0 from rfl]; simp
    have := step_g (r := l) (by rw [List.append_nil]; exact h) hB hl hat s hs1 hs2 e
    rw [h3]
    exact this
  · have h3 : l.take (l.length - takeN 112) = l := by rw [show takeN 112 = 0 from rfl]; simp
    have := step_p (r := l) (by rw [List.append_nil]; exact h) hB hl hat s hs1 hs2 e (hp e)
    rw [h3]
    exact this
end Go.Proofs.YthglfmacjoecgaaGreatDoor
namespace Go.Proofs.YthglfmacjoecgaaGreatDoor
open Go.RowKit

/-- What blocks make of a state; what doesn't fill one. -/
def absorb : Nat → (Nat → Int) → ByteArray → (Nat → Int) × ByteArray
  | 0, f, r => (f, r)
  | m + 1, f, r => if r.size < 64 then (f, r) else absorb m (mixR (r.extract 0 64) f) (r.extract 64 r.size)
theorem absorb_end (m : Nat) (f : Nat → Int) (r : ByteArray) (h : r.size < 64) : absorb m f r = (f, r) := by
  cases m with
  | zero => rfl
  | succ m => unfold absorb; rw [if_pos h]
theorem absorb_less (m : Nat) : ∀ (f : Nat → Int) (r : ByteArray), r.size ≤ m → (absorb m f r).2.size < 64 := by
  induction m with
  | zero => intro f r h; unfold absorb; show r.size < 64; omega
  | succ m ih =>
    intro f r h
    unfold absorb
    split
    · assumption
    · exact ih _ _ (by simp; omega)
/-- A text more. -/
def addR (q : (Nat → Int) × ByteArray × Int) (s : ByteArray) : (Nat → Int) × ByteArray × Int :=
  let a := absorb (q.2.1.size + s.size) q.1 (q.2.1 ++ s)
  (a.1, a.2, q.2.2 + s.size)
def addsR (ss : List ByteArray) : (Nat → Int) × ByteArray × Int := ss.foldl addR (iv, .empty, 0)
theorem addsR_take (ss : List ByteArray) (k : Nat) (h : k < ss.length) : addsR (ss.take (k + 1)) = addR (addsR (ss.take k)) ss[k] := by
  unfold addsR
  rw [List.take_succ_eq_append_getElem h, List.foldl_append]
  rfl
theorem addsR_less (ss : List ByteArray) : (addsR ss).2.1.size < 64 := by
  have key : ∀ (ss : List ByteArray) (q : (Nat → Int) × ByteArray × Int), q.2.1.size < 64 → (ss.foldl addR q).2.1.size < 64 := by
    intro ss
    induction ss with
    | nil => intro q h; exact h
    | cons s ss ih => intro q h; exact ih _ (absorb_less _ _ _ (by rw [ByteArray.size_append]; exact Nat.le_refl _))
  exact key ss _ (by decide)
def sumSize (ss : List ByteArray) : Nat := (ss.map ByteArray.size).sum
theorem addsR_n (ss : List ByteArray) : (addsR ss).2.2 = (sumSize ss : Nat) := by
  have key : ∀ (ss : List ByteArray) (q : (Nat → Int) × ByteArray × Int), (ss.foldl addR q).2.2 = q.2.2 + (sumSize ss : Nat) := by
    intro ss
    induction ss with
    | nil => intro q; simp [sumSize]
    | cons s ss ih => intro q; rw [List.foldl_cons, ih]; simp [addR, sumSize]; omega
  rw [show addsR ss = ss.foldl addR (iv, .empty, 0) from rfl, key]
  simp
theorem sumSize_append (a b : List ByteArray) : sumSize (a ++ b) = sumSize a + sumSize b := by unfold sumSize; rw [List.map_append, List.sum_append]
theorem sumSize_take (ss : List ByteArray) (k : Nat) : sumSize (ss.take k) ≤ sumSize ss := by
  have := congrArg sumSize (List.take_append_drop k ss)
  rw [sumSize_append] at this
  omega
theorem sumSize_get (ss : List ByteArray) (k : Nat) (h : k < ss.length) : sumSize (ss.take k) + ss[k].size ≤ sumSize ss := by
  have h1 := sumSize_take ss (k + 1)
  rw [List.take_succ_eq_append_getElem h, sumSize_append] at h1
  have : sumSize [ss[k]] = ss[k].size := by simp [sumSize]
  omega
theorem StAt.setHi {w : World} {b : Nat} {T : TypeId} {cs : Array Value} {f : Nat → Int} (h : StAt w b T cs f) (t : Nat) (ht : 8 ≤ t) (v : Value) : StAt (w.setCell ⟨b, t, none⟩ v) b T (cs.setIfInBounds t v) f := by
  refine ⟨heap_set_same h.heap t _, fun i hi => ?_⟩
  rw [Array.getElem?_setIfInBounds, if_neg (by omega)]
  exact h.word i hi

def restOf (w : World) (b : Nat) : Nat := match w.cell? ⟨b, 8, none⟩ with | some (.string s) => s.size | _ => 0
theorem restOf_eq {w : World} {b : Nat} {s : ByteArray} (h : w.cell? ⟨b, 8, none⟩ = some (.string s)) : restOf w b = s.size := by unfold restOf; rw [h]

theorem words_chg {F : Nat → Prop} {w w' : World} (h : Lib.TabIs Tryz.prog w "apiary/stamp.words" .u32 wordsL) (hc : Chg F w w') (hF : ¬ F gWd) : Lib.TabIs Tryz.prog w' "apiary/stamp.words" .u32 wordsL := by
  unfold Lib.TabIs World.var? at h ⊢
  rw [wdG] at h ⊢
  simp only [Option.bind_some] at h ⊢
  cases hb : w.heap[gWd]? with
  | none => simp [hb] at h
  | some o => rw [hb] at h; rw [hc.obj hb hF]; exact h

set_option maxRecDepth 100000 in
set_option maxHeartbeats 4000000 in
theorem sadd_any (w : World) (b : Nat) (ss : List ByteArray) (g n c : Nat) (hn : n = ss.length) (hl : ss.length ≤ 1000) (hsz : sumSize ss ≤ 140737488355328) (hc : ∀ i (h : i < ss.length), w.cell? ⟨g, i, none⟩ = some (.string ss[i])) (hgb : g ≠ b)
    (hP : PressAt w b iv .empty 0) (hT : Lib.TabIs Tryz.prog w "apiary/stamp.words" .u32 wordsL) (hwb : gWd ≠ b) :
    Calls Tryz.prog 65 #[.pointer (some ⟨b, 0, none⟩), .slice (some ⟨g, 0, none⟩) n c] w
      (fun e w' => e = .returned (.pointer (some ⟨b, 0, none⟩)) ∧ PressAt w' b (addsR ss).1 (addsR ss).2.1 (addsR ss).2.2 ∧ Chg (fun k => k = b) w w') := by
  subst hn
  have HC := hid hc
  have HP := hid hP
  have HT := hid hT
  clear hc hP hT
  go_enter Tryz.func65, Tryz.ntmps65
  go_wp2_with fail
  go_loopw [11] (fun i wr => ∃ k : Nat, k ≤ ss.length ∧ i = .int .i64 k ∧ PressAt wr b (addsR (ss.take k)).1 (addsR (ss.take k)).2.1 (addsR (ss.take k)).2.2 ∧ Chg (fun k => k = b) w wr) (fun i _ => ss.length - (intOf i).toNat)
  case atStart => exact ⟨0, Nat.zero_le _, rfl, HP.out, Chg.refl _ w⟩
  case round =>
    obtain ⟨k, hk, rfl, ⟨cs, hS, h8, h9⟩, hch⟩ := hrel
    by_cases hkn : k < ss.length
    · have hkn' : (k : Int) < ss.length := by omega
      have hkc := hch.cell (p := ⟨g, k, none⟩) (HC.out k hkn) hgb
      have x8 := (cell_of hS.heap 8).trans h8
      have x9 := (cell_of hS.heap 9).trans h9
      have f8 := frozen_of hS.heap 8
      have f9 := frozen_of hS.heap 9
      have hless := addsR_less (ss.take k)
      have hnn := addsR_n (ss.take k)
      have hsg := sumSize_get ss k hkn
      have hcat : ¬ 9223372036854775807 < (addsR (ss.take k)).2.1.size + ss[k].size := by omega
      have hwr : IntKind.i64.wrap ((addsR (ss.take k)).2.2 + (ss[k].size : Int)) = (addsR (ss.take k)).2.2 + (ss[k].size : Int) := IntWalk.i64_in _ (by omega)
      have HNX := hid (addsR_take ss k hkn)
      generalize addsR (ss.take k) = q at hS h8 h9 x8 x9 hless hnn hcat hwr HNX
      have HS := hid hS
      have H89 := hid (And.intro h8 h9)
      have HCH := hid hch
      clear hS h8 h9 hch hnn
      go_wp2_with fail
      refine wp_gen (fun W => PressAt W b q.1 (q.2.1 ++ ss[k]) (q.2.2 + (ss[k].size : Int)) ∧ Chg (fun k => k = b) w W) ⟨⟨_, (HS.out.setHi 9 (by decide) _).setHi 8 (by decide) _, ?_, ?_⟩, (HCH.out.setCell (p := ⟨b, 9, none⟩) (fun _ => rfl) _).setCell (p := ⟨b, 8, none⟩) (fun _ => rfl) _⟩ ?_
      · have h8s := (Array.getElem?_eq_some_iff.1 H89.out.1).1
        rw [Array.getElem?_setIfInBounds, if_pos rfl, if_pos (by rw [Array.size_setIfInBounds]; exact h8s)]
      · have h9s := (Array.getElem?_eq_some_iff.1 H89.out.2).1
        rw [Array.getElem?_setIfInBounds, if_neg (by decide), Array.getElem?_setIfInBounds, if_pos rfl, if_pos h9s]
      clear HS H89 HCH x8 x9 f8 f9
      rintro wo ⟨hPo, hco⟩
      have HPO := hid hPo
      have HCO := hid hco
      clear hPo hco
      obtain ⟨A, hA⟩ : ∃ A, A = absorb (q.2.1.size + ss[k].size) q.1 (q.2.1 ++ ss[k]) := ⟨_, rfl⟩
      have HA := hid hA
      clear hA
      obtain ⟨n', hn'⟩ : ∃ n', n' = q.2.2 + (ss[k].size : Int) := ⟨_, rfl⟩
      rw [← hn'] at HPO
      have HN' := hid hn'
      clear hn' hwr
      go_loopw [46] (fun _ wr => ∃ m f r, r.size ≤ m ∧ r.size ≤ 140737488355328 + 64 ∧ absorb m f r = A ∧ PressAt wr b f r n' ∧ Chg (fun k => k = b) wo wr) (fun _ wr => restOf wr b)
      case atStart => exact ⟨_, _, _, by rw [ByteArray.size_append]; exact Nat.le_refl _, by rw [ByteArray.size_append]; omega, HA.out.symm, HPO.out, Chg.refl _ _⟩
      case round =>
        obtain ⟨m, f, r, hm, hrb, hab, ⟨cs', hS', h8', h9'⟩, hch'⟩ := hrel
        have x8 := (cell_of hS'.heap 8).trans h8'
        have f8 := frozen_of hS'.heap 8
        by_cases h64 : r.size < 64
        · have h64' : ¬ (64 : Int) ≤ (r.size : Int) := by omega
          have h64'' : (r.size : Int) < 64 := by omega
          have HS := hid hS'
          have H89 := hid (And.intro h8' h9')
          have HCH := hid hch'
          have HAB := hid hab
          clear hS' h8' h9' hch' hab
          go_wp2_with fail
          go_roundw
          case rel =>
            rw [absorb_end m f r h64] at HAB
            refine ⟨k + 1, by omega, by go_num, ?_, HCO.out.trans HCH.out (fun _ _ h => h)⟩
            have hN : addsR (ss.take (k + 1)) = (f, r, n') := by
              rw [HNX.out, HN'.out]
              show ((absorb (q.2.1.size + ss[k].size) q.1 (q.2.1 ++ ss[k])).1, (absorb (q.2.1.size + ss[k].size) q.1 (q.2.1 ++ ss[k])).2, q.2.2 + (ss[k].size : Int)) = _
              rw [← HA.out, ← HAB.out]
            rw [hN]
            exact ⟨cs', HS.out, H89.out.1, H89.out.2⟩
          case measure => simp [intOf]; omega
        · have h64' : (64 : Int) ≤ (r.size : Int) := by omega
          have hT' : Lib.TabIs Tryz.prog wr.drew "apiary/stamp.words" .u32 wordsL := by
            have hc1 : Chg (fun k => k = b) w wr.drew := (HCO.out.trans hch' (fun _ _ h => h)).drew
            exact words_chg HT.out hc1 hwb
          have hmix := mix_any (r.extract 0 64) (by simp; omega) wr.drew b 181 cs' f hS'.drew hT' hwb
          have hro := restOf_eq x8
          have HRO := hid hro
          have HS := hid hS'
          have H89 := hid (And.intro h8' h9')
          have HCH := hid hch'
          have HAB := hid hab
          clear hS' h8' h9' hch' hab hro
          go_wp2_with fail
          refine wp_region_still_tail 8 (by kernel_rfl) (by kernel_rfl) ?_
          simp only [List.take_succ_cons, List.take_zero, List.drop_succ_cons, List.drop_zero]
          repeat still_step
          refine wpStill_nil ?_
          change wpList _ _ _ _ _ wr.drew
          go_wp2_with (go_at_call 105; refine hmix.mono ?_; rintro e w5 ⟨rfl, cs5, hS5, hs5, hr5, hc5⟩; have y8 := (cell_of hS5.heap 8).trans ((hr5 8 (Nat.le_refl _)).trans H89.out.1); have z8 := frozen_of hS5.heap 8)
          have h8s := (Array.getElem?_eq_some_iff.1 ((hr5 8 (Nat.le_refl _)).trans H89.out.1)).1
          have h9n : (cs5.setIfInBounds 8 (.string (r.extract 64 r.size)))[9]? = some (.int .i64 n') := by
            rw [Array.getElem?_setIfInBounds, if_neg (by decide)]; exact (hr5 9 (by decide)).trans H89.out.2
          have h8n : (cs5.setIfInBounds 8 (.string (r.extract 64 r.size)))[8]? = some (.string (r.extract 64 r.size)) := by
            rw [Array.getElem?_setIfInBounds, if_pos rfl, if_pos h8s]
          have hS6 := hS5.setHi 8 (Nat.le_refl _) (.string (r.extract 64 r.size))
          have hr6 := restOf_eq ((cell_of hS6.heap 8).trans h8n)
          go_roundw
          case rel =>
            obtain ⟨m', rfl⟩ : ∃ m', m = m' + 1 := ⟨m - 1, by omega⟩
            refine ⟨m', mixR (r.extract 0 64) f, r.extract 64 r.size, by simp; omega, by simp; omega, ?_, ⟨_, hS6, h8n, h9n⟩, (HCH.out.drew.trans hc5 (fun _ _ h => h)).setCell (p := ⟨b, 8, none⟩) (fun _ => rfl) _⟩
            rw [← HAB.out]
            conv => rhs; unfold absorb
            rw [if_neg h64]
          case measure =>
            rw [hr6, HRO.out]
            simp
            omega
    · obtain rfl : k = ss.length := by omega
      go_wp2_with fail
      go_ret
      rw [List.take_length] at hS h8 h9
      exact ⟨rfl, ⟨cs, hS, h8, h9⟩, hch⟩
end Go.Proofs.YthglfmacjoecgaaGreatDoor
