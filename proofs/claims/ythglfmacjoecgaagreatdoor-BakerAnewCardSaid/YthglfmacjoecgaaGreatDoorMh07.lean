/- Texts of the proof, one behind the other: sap.Row walked; mill's small functions walked: width, takes, number, same; mill's stack walked: push, pop; slices.Reverse at []byte, slices.ContainsFunc at []string: the kit's contracts laid here; mill.turned, isWide over inputs walked; mill's machine: its block; push and pop said of it; end walked. -/
import Derived.Test.YthglfmacjoecgaaGreatDoorMh06
import Derived.Test.YthglfmacjoecgaaGreatDoorMh01
import Derived.Test.YthglfmacjoecgaaGreatDoorShelf
import Derived.Shelf.SlicesE.Reverse
import Derived.Shelf.SlicesE.IndexFunc
import Derived.Test.YthglfmacjoecgaaGreatDoorProg
import Derived.Lib.SlBytesRow
import Derived.Deep.RegionHeld3
namespace Go.Proofs.YthglfmacjoecgaaGreatDoor
open Go.RowKit

set_option maxRecDepth 100000 in
set_option maxHeartbeats 4000000 in
theorem row_any (ts : List (List UInt8)) (hr : (rowN ts).length ≤ 90000) (hl : ts.length ≤ 1000) (v : Value) (w : World) (hin : NamesAt w v ts) : Calls Tryz.prog 63 #[v] w (Rets (.string (bs (rowN ts))) (Chg (fun _ => False) w)) := by
  have hlen := hin.len
  have hnum := num_any (ts.length : Int) (by omega) (by omega)
  have hR : (rowN ts).length = (numL (ts.length : Int)).length + (ts.flatMap textN).length := by unfold rowN; rw [List.length_append]
  have HR := hid hR
  have HN := hid hin
  have hbd : BdAt (w.alloc (.cells #[.pointer none, .slice none 0 0] 170)) (w.alloc (.cells #[.pointer none, .slice none 0 0] 170)) w.heap.size [] :=
    ⟨.inl ⟨Nat.le_refl _, .slice none 0 0, heap_alloc_new' _ _, World.ownsRow_nil _ _ _ _, by simp [Value.ownBlock]⟩, Chg.refl _ _, by simp⟩
  have hfar : ∀ W, Chg (fun k => w.heap.size ≤ k) (w.alloc (.cells #[.pointer none, .slice none 0 0] 170)) W → Chg (fun _ => False) w W := fun W hW => ((Chg.refl _ w).alloc _).trans hW (fun i hi h => by omega)
  have HF := hid hfar
  have HB := hid hbd
  clear hin hR hfar hbd
  go_enter Tryz.func63, Tryz.ntmps63
  go_wp2_with fail
  generalize w.alloc (.cells #[.pointer none, .slice none 0 0] 170) = W3 at *
  obtain ⟨b, hb⟩ : ∃ b, b = w.heap.size := ⟨_, rfl⟩
  rw [← hb] at HF HB ⊢
  clear hb
  refine (hnum _).mono ?_
  rintro e w2 ⟨rfl, hc2⟩
  have hB2 := (HB.out.keep (hc2.mono (fun _ _ h => h.elim))).write (numL (ts.length : Int)) (by have := HR.out; simp; omega)
  clear hnum hc2
  go_wp2_with (go_at_call 101; refine hB2.mono ?_; rintro e w4 ⟨rfl, hB4⟩)
  clear hB2
  go_loopw [12] (fun i wr => ∃ k : Nat, k ≤ ts.length ∧ i = .int .i64 k ∧ BdAt W3 wr b (numL (ts.length : Int) ++ (ts.take k).flatMap textN)) (fun i _ => ts.length - (intOf i).toNat)
  case atStart => exact ⟨0, Nat.zero_le _, rfl, by simpa using hB4⟩
  case round =>
    obtain ⟨k, hk, rfl, hBd⟩ := hrel
    have HBd := hid hBd
    clear hBd hB4
    by_cases hkn : k < ts.length
    · have hkn' : (k : Int) < ts.length := by omega
      obtain ⟨ad, hix, hadc, hadb⟩ := (HN.out.chg (HF.out wr HBd.out.ch) (fun _ _ h => h)).ix k hkn
      have hin := textN_in ts k hkn
      have htl : ts[k].length ≤ 100000 := by
        have : ts[k].length ≤ (textN ts[k]).length := by unfold textN; simp
        have := HR.out
        omega
      have htx := text_any ts[k] htl
      have hwr : ∀ W, Chg (fun _ => False) wr W → Calls Tryz.prog 101 #[.pointer (some ⟨b, 0, none⟩), .string (bs (textN ts[k]))] W (Rets (.tuple #[.int .i64 (bs (textN ts[k])).size, .nilIface]) (fun w' => BdAt W3 w' b (numL (ts.length : Int) ++ (ts.take (k + 1)).flatMap textN))) := by
        intro W hW
        have h1 := HBd.out.keep (hW.mono (fun _ _ h => h.elim))
        have h2 := h1.write (textN ts[k]) (by have := HR.out; rw [List.length_append]; omega)
        rw [List.append_assoc, ← rowN_take ts k hkn] at h2
        exact h2
      have HWR := hid hwr
      clear hin htl hwr
      generalize bs (textN ts[k]) = y at *
      generalize bs ts[k] = z at *
      go_wp2_with (first | (go_at_call 102; refine (htx _).mono ?_; rintro e w5 ⟨rfl, hc5⟩) | (go_at_call 101; refine (HWR.out _ hc5).mono ?_; rintro e w6 ⟨rfl, hB6⟩))
      go_roundw
      case rel => exact ⟨k + 1, by omega, by go_num, hB6⟩
      case measure => simp [intOf]; omega
    · obtain rfl : k = ts.length := by omega
      have hBd := HBd.out
      rw [List.take_length] at hBd
      have hst := Tryz.Builder_String_any b b _ wr hBd.bd (Nat.le_of_lt hBd.lt)
      have HBd3 := hid hBd
      clear hBd HBd
      go_wp2_with (go_at_call 103; refine hst.mono ?_; rintro e w9 ⟨rfl, hb9⟩)
      go_ret
      exact ⟨rfl, HF.out w9 (HBd3.out.ch.trans (Chg.of_below hb9) (fun _ _ h => h))⟩
end Go.Proofs.YthglfmacjoecgaaGreatDoor
namespace Go.Proofs.YthglfmacjoecgaaGreatDoor
open Go.RowKit

/-- strings.IndexByte, behind a name. -/
def ibI (s : ByteArray) (c : UInt8) : Int := Lib.indexByte s.data.toList c
theorem ib_any (s : ByteArray) (c : UInt8) (w : World) : Calls Tryz.prog 94 #[.string s, .int .u8 c.toNat] w (Rets (.int .i64 (ibI s c)) (fun w' => w = w')) :=
  (Tryz.strings_IndexByte s c.toNat w).mono fun e w' ⟨he, hw⟩ => ⟨by rw [he]; simp [ibI], hw.symm⟩

def plainB (c : UInt8) : Bool := decide (0 ≤ ibI { data := #[99, 100, 115, 120, 114, 104, 108, 61] } c)
def numB (c : UInt8) : Bool := decide (0 ≤ ibI { data := #[105, 116, 107, 106, 103] } c)
def dblB (c : UInt8) : Bool := decide (0 ≤ ibI { data := #[99, 115, 61] } c)
def noneB (c : UInt8) : Bool := decide (0 ≤ ibI { data := #[105, 112, 103] } c)

/-- How many bytes the step at a place has. -/
def wid0 (code : ByteArray) (i : Nat) (h : i < code.size) : Nat :=
  if plainB code[i] then 1 else if numB code[i] then 2 else if h2 : code[i] = 112 ∧ i + 1 < code.size then 2 + code[i + 1].toNat else 0
def widN (code : ByteArray) (i : Nat) : Nat := if h : i < code.size then (if code.size - i < wid0 code i h then 0 else wid0 code i h) else 0

set_option maxHeartbeats 1000000 in
theorem width_any (code : ByteArray) (i : Nat) (w : World) (h : i < code.size) (hs : code.size ≤ maxLen) :
    Calls Tryz.prog 60 #[.string code, .int .i64 i] w (Rets (.int .i64 (widN code i)) (fun w' => w = w')) := by
  unfold maxLen at hs
  have h' : (i : Int) < code.size := by omega
  have hw0 : widN code i = if code.size - i < wid0 code i h then 0 else wid0 code i h := by unfold widN; rw [dif_pos h]
  have fin : ∀ n : Nat, wid0 code i h = n → ∀ m : Int, m = (if code.size - i < n then 0 else n : Nat) → Rets (.int .i64 (widN code i)) (fun w' => w = w') (.returned (.int .i64 m)) w := by
    intro n hn m hm
    refine ⟨?_, rfl⟩
    rw [hm, hw0, hn]
  have F := hid fin
  clear hw0 fin
  by_cases h1 : 0 ≤ ibI { data := #[99, 100, 115, 120, 114, 104, 108, 61] } code[i]
  · have e1 : wid0 code i h = 1 := by unfold wid0 plainB; simp [h1]
    have F1 := hid (F.out 1 e1)
    clear F e1
    go_enter Tryz.func60, Tryz.ntmps60
    go_wp2_with (go_at_call 94; refine (ib_any _ _ _).mono ?_; rintro e w' ⟨rfl, rfl⟩)
    all_goals go_ret
    all_goals exact F1.out _ (by rw [if_neg (by omega)]; rfl)
  · have h1' : ibI { data := #[99, 100, 115, 120, 114, 104, 108, 61] } code[i] < 0 := by omega
    by_cases h2 : 0 ≤ ibI { data := #[105, 116, 107, 106, 103] } code[i]
    · have e1 : wid0 code i h = 2 := by unfold wid0 plainB numB; simp [h1, h2]
      have F1 := hid (F.out 2 e1)
      clear F e1 h1
      go_enter Tryz.func60, Tryz.ntmps60
      go_wp2_with (go_at_call 94; refine (ib_any _ _ _).mono ?_; rintro e w' ⟨rfl, rfl⟩)
      all_goals go_ret
      all_goals exact F1.out _ (by first | (rw [if_neg (by omega)]; rfl) | (rw [if_pos (by omega)]; rfl))
    · have h2' : ibI { data := #[105, 116, 107, 106, 103] } code[i] < 0 := by omega
      by_cases h3 : code[i] = 112
      · have h3' : ((code[i].toNat : Int) == 112) = true := by rw [h3]; rfl
        by_cases h4 : i + 1 < code.size
        · have h4' : (i : Int) + 1 < code.size := by omega
          have e1 : wid0 code i h = 2 + code[i + 1].toNat := by unfold wid0; rw [show plainB code[i] = false from by simp [plainB]; omega, show numB code[i] = false from by simp [numB]; omega]; simp [h3, h4]
          have F1 := hid (F.out _ e1)
          have hb : code[i + 1].toNat < 256 := code[i + 1].toNat_lt
          clear F e1 h1 h2 h3
          go_enter Tryz.func60, Tryz.ntmps60
          go_wp2_with (go_at_call 94; refine (ib_any _ _ _).mono ?_; rintro e w' ⟨rfl, rfl⟩)
          all_goals go_ret
          all_goals exact F1.out _ (by first | (rw [if_neg (by omega)]; simp) | (rw [if_pos (by omega)]; rfl))
        · have h4' : (code.size : Int) ≤ (i : Int) + 1 := by omega
          have e1 : wid0 code i h = 0 := by unfold wid0; rw [show plainB code[i] = false from by simp [plainB]; omega, show numB code[i] = false from by simp [numB]; omega]; simp [h3, h4]
          have F1 := hid (F.out _ e1)
          clear F e1 h1 h2 h3
          go_enter Tryz.func60, Tryz.ntmps60
          go_wp2_with (go_at_call 94; refine (ib_any _ _ _).mono ?_; rintro e w' ⟨rfl, rfl⟩)
          all_goals go_ret
          all_goals exact F1.out _ (by rw [if_neg (by omega)]; rfl)
      · have h3' : ((code[i].toNat : Int) == 112) = false := by
          simp
          intro e
          exact h3 (UInt8.toNat_inj.1 (by have : (112 : UInt8).toNat = 112 := rfl; omega))
        have e1 : wid0 code i h = 0 := by unfold wid0 plainB numB; simp [h1, h2, h3]
        have F1 := hid (F.out _ e1)
        clear F e1 h1 h2 h3
        go_enter Tryz.func60, Tryz.ntmps60
        go_wp2_with (go_at_call 94; refine (ib_any _ _ _).mono ?_; rintro e w' ⟨rfl, rfl⟩)
        all_goals go_ret
        all_goals exact F1.out _ (by rw [if_neg (by omega)]; rfl)

def takeN (c : UInt8) : Nat := if dblB c then 2 else if noneB c then 0 else 1
set_option maxHeartbeats 400000 in
theorem takes_any (c : UInt8) (w : World) : Calls Tryz.prog 96 #[.int .u8 c.toNat] w (Rets (.int .i64 (takeN c)) (fun w' => w = w')) := by
  by_cases h1 : 0 ≤ ibI { data := #[99, 115, 61] } c
  · have e1 : takeN c = 2 := by unfold takeN dblB; simp [h1]
    rw [e1]; clear e1
    go_enter Tryz.func96, Tryz.ntmps96
    go_wp2_with (go_at_call 94; refine (ib_any _ _ _).mono ?_; rintro e w' ⟨rfl, rfl⟩)
    all_goals go_ret
    all_goals exact ⟨rfl, rfl⟩
  · have h1' : ibI { data := #[99, 115, 61] } c < 0 := by omega
    by_cases h2 : 0 ≤ ibI { data := #[105, 112, 103] } c
    · have e1 : takeN c = 0 := by unfold takeN dblB noneB; simp [h1, h2]
      rw [e1]; clear e1 h1
      go_enter Tryz.func96, Tryz.ntmps96
      go_wp2_with (go_at_call 94; refine (ib_any _ _ _).mono ?_; rintro e w' ⟨rfl, rfl⟩)
      all_goals go_ret
      all_goals exact ⟨rfl, rfl⟩
    · have h2' : ibI { data := #[105, 112, 103] } c < 0 := by omega
      have e1 : takeN c = 1 := by unfold takeN dblB noneB; simp [h1, h2]
      rw [e1]; clear e1 h1 h2
      go_enter Tryz.func96, Tryz.ntmps96
      go_wp2_with (go_at_call 94; refine (ib_any _ _ _).mono ?_; rintro e w' ⟨rfl, rfl⟩)
      all_goals go_ret
      all_goals exact ⟨rfl, rfl⟩

def numN (s : ByteArray) : Nat := if h : 1 < s.size then s[1].toNat else 0
set_option maxHeartbeats 400000 in
theorem number_any (s : ByteArray) (w : World) (hs : s.size ≤ maxLen) : Calls Tryz.prog 95 #[.string s] w (Rets (.int .i64 (numN s)) (fun w' => w = w')) := by
  unfold maxLen at hs
  by_cases h : 1 < s.size
  · have e1 : numN s = s[1].toNat := by unfold numN; rw [dif_pos h]
    have hb : s[1].toNat < 256 := s[1].toNat_lt
    have h' : 2 ≤ (s.size : Int) := by omega
    rw [e1]; clear e1
    go_enter Tryz.func95, Tryz.ntmps95
    go_wp2
    all_goals go_ret
    all_goals exact ⟨by simp, rfl⟩
  · have e1 : numN s = 0 := by unfold numN; rw [dif_neg h]
    have h' : (s.size : Int) < 2 := by omega
    rw [e1]; clear e1
    go_enter Tryz.func95, Tryz.ntmps95
    go_wp2
    all_goals go_ret
    all_goals exact ⟨rfl, rfl⟩

theorem ba_eqM (a b : ByteArray) : (a == b) = decide (a = b) := by
  rcases a with ⟨a⟩; rcases b with ⟨b⟩
  show (a == b) = _
  by_cases h : a = b <;> simp [h]
def sameS (a b : ByteArray) : ByteArray := if a = b then { data := #[49] } else ByteArray.empty
set_option maxHeartbeats 400000 in
theorem same_any (a b : ByteArray) (w : World) : Calls Tryz.prog 100 #[.string a, .string b] w (Rets (.string (sameS a b)) (fun w' => w = w')) := by
  by_cases h : a = b
  · subst h
    have e1 : sameS a a = { data := #[49] } := by unfold sameS; rw [if_pos rfl]
    rw [e1]; clear e1
    go_enter Tryz.func100, Tryz.ntmps100
    go_wp2
    all_goals go_ret
    all_goals exact ⟨rfl, rfl⟩
  · have e1 : sameS a b = ByteArray.empty := by unfold sameS; rw [if_neg h]
    rw [e1]; clear e1
    have hne : (a.toList == b.toList) = false := by rw [← beq_toListBytes, ba_eqM]; simp [h]
    go_enter Tryz.func100, Tryz.ntmps100
    go_wp2
    all_goals go_ret
    all_goals exact ⟨rfl, rfl⟩
end Go.Proofs.YthglfmacjoecgaaGreatDoor
namespace Go.Proofs.YthglfmacjoecgaaGreatDoor
open Go.RowKit

theorem elStrM : ElT Tryz.prog 22 9 1 16 := .mk' (z := .string ByteArray.empty) Tryz.underlying22 (by kernel_rfl) rfl (by decide) rfl

/-- The stack in a block's first cell: of these blobs. -/
structure StackAt (w : World) (b : Nat) (v : Value) (cs : Array Value) (T : TypeId) (l : List ByteArray) : Prop where
  heap : w.heap[b]? = some (.cells cs T (0, 0))
  fst : cs[0]? = some v
  own : w.ownsRow 0 9 1 v l.length (l.map Value.string)
  ne : v.ownBlock ≠ some b

/-- What a push makes of a stack. -/
def pushR : List ByteArray → List ByteArray → Nat × List ByteArray
  | l, [] => (0, l)
  | l, s :: ss => if 8 ≤ l.length then (31, l) else if 512 < s.size then (33, l) else pushR (l ++ [s]) ss

theorem pushR_cons (l : List ByteArray) (s : ByteArray) (ss : List ByteArray) : pushR l (s :: ss) = if 8 ≤ l.length then (31, l) else if 512 < s.size then (33, l) else pushR (l ++ [s]) ss := rfl
theorem pushR_nil (l : List ByteArray) : pushR l [] = (0, l) := rfl

/-- Behind a push or pop the stack is this one. -/
def StackTo (w : World) (b : Nat) (v : Value) (cs : Array Value) (T : TypeId) (l : List ByteArray) (w' : World) : Prop :=
  ∃ v', StackAt w' b v' (cs.setIfInBounds 0 v') T l ∧ (∀ k, v'.ownBlock = some k → v.ownBlock = some k ∨ w.heap.size ≤ k) ∧ Chg (fun k => k = b ∨ v.ownBlock = some k) w w'

theorem StackAt.to {w : World} {b : Nat} {v : Value} {cs : Array Value} {T : TypeId} {l : List ByteArray} (h : StackAt w b v cs T l) : StackTo w b v cs T l w := by
  refine ⟨v, ?_, fun k hk => .inl hk, Chg.refl _ w⟩
  have : cs.setIfInBounds 0 v = cs := by
    have h0 := h.fst
    apply Array.ext_getElem?
    intro i
    rw [Array.getElem?_setIfInBounds]
    split
    · subst_vars; split <;> simp_all
    · rfl
  rw [this]; exact h

/-- A blob put behind. -/
theorem stack_put {w wr w1 : World} {b : Nat} {v v1 : Value} {cs : Array Value} {T : TypeId} {l l' : List ByteArray} {g1 n cap : Nat}
    (hch : Chg (fun k => k = b ∨ v.ownBlock = some k) w wr) (hv1 : ∀ k, v1.ownBlock = some k → v.ownBlock = some k ∨ w.heap.size ≤ k)
    (hS : StackAt wr b v1 (cs.setIfInBounds 0 v1) T l) (hb : w1.heap[b]? = some (.cells (cs.setIfInBounds 0 v1) T (0, 0))) (hchg : Chg (fun k => v1.ownBlock = some k) wr w1) (hg1 : v1.ownBlock = some g1 ∨ wr.heap.size ≤ g1)
    (hown : w1.ownsRow 0 9 1 (.slice (some ⟨g1, 0, none⟩) n cap) l'.length (l'.map Value.string)) :
    StackTo w b v cs T l' (w1.setCell ⟨b, 0, none⟩ (.slice (some ⟨g1, 0, none⟩) n cap)) := by
  have hbw := heap_lt hS.heap
  have hgb : g1 ≠ b := by
    rcases hg1 with h | h
    · intro e; subst e; exact hS.ne h
    · omega
  have hsz : 0 < cs.size := by
    have h2 := hS.fst
    rcases Nat.eq_zero_or_pos cs.size with h | h
    · rw [Array.eq_empty_of_size_eq_zero h] at h2
      simp at h2
    · exact h
  refine ⟨.slice (some ⟨g1, 0, none⟩) n cap, ⟨?_, ?_, ?_, ?_⟩, ?_, ?_⟩
  · rw [heap_set_same hb 0, Array.setIfInBounds_setIfInBounds]
  · simp [hsz]
  · exact ownsRow_setCell_other hown (by simpa [Value.ownBlock] using hgb) _
  · simpa [Value.ownBlock] using hgb
  · intro k hk
    simp [Value.ownBlock] at hk
    subst hk
    rcases hg1 with h | h
    · exact hv1 _ h
    · exact .inr (Nat.le_trans hch.size h)
  · refine (hch.trans hchg ?_).setCell (fun _ => .inl rfl) _
    intro i hi h
    rcases hv1 i h with h | h
    · exact .inr h
    · omega

set_option maxRecDepth 100000 in
set_option maxHeartbeats 1000000 in
theorem push_any (w : World) (b : Nat) (v : Value) (cs : Array Value) (T : TypeId) (l : List ByteArray) (hS : StackAt w b v cs T l) (g n c : Nat) (ss : List ByteArray) (hn : ss.length = n) (hn2 : n ≤ 100)
    (hc : ∀ i (h : i < ss.length), w.cell? ⟨g, i, none⟩ = some (.string ss[i])) (hg : g ≠ b) (hgv : v.ownBlock ≠ some g) (hsz : ∀ s ∈ ss, s.size ≤ maxLen) (_ : l.length ≤ 1000) :
    Calls Tryz.prog 97 #[.pointer (some ⟨b, 0, none⟩), .slice (some ⟨g, 0, none⟩) n c] w (Rets (.int .i64 (pushR l ss).1) (StackTo w b v cs T (pushR l ss).2)) := by
  subst hn
  go_enter Tryz.func97, Tryz.ntmps97
  go_wp2_with fail
  go_loopw [9] (fun i wr => ∃ k : Nat, ∃ l', k ≤ ss.length ∧ i = .int .i64 k ∧ StackTo w b v cs T l' wr ∧ pushR l ss = pushR l' (ss.drop k) ∧ l'.length ≤ l.length + k) (fun i _ => ss.length - (intOf i).toNat)
  case atStart => exact ⟨0, l, Nat.zero_le _, rfl, hS.to, rfl, by omega⟩
  case round =>
    obtain ⟨k, l', hk, rfl, hST, hp, hll⟩ := hrel
    obtain ⟨v1, ⟨h1, h2, h3, h4⟩, hv1, hch⟩ := hST
    have hcell : wr.cell? ⟨b, 0, none⟩ = some v1 := (cell_of h1 0).trans h2
    have hfz := frozen_of h1 0
    have hlen := fun w ty => run_len_own (P := Tryz.prog) Tryz.underlying22 h3 w ty
    by_cases hkn : k < ss.length
    · have hkn' : (k : Int) < ss.length := by omega
      have hkc : wr.cell? ⟨g, k, none⟩ = some (.string ss[k]) := hch.cell (hc k hkn) (fun h => h.elim (fun e => hg e) (fun e => hgv e))
      have hsk := hsz _ (List.getElem_mem hkn)
      unfold maxLen at hsk
      rw [List.drop_eq_getElem_cons hkn] at hp
      have HP := hid hp
      have HC := hid hch
      have HV := hid hv1
      clear hp hch hv1
      by_cases h8 : 8 ≤ l'.length
      · have h8' : 8 ≤ (l'.length : Int) := by omega
        go_wp2_with fail
        go_ret
        rw [show pushR l ss = (31, l') from by rw [HP.out, pushR_cons, if_pos h8]]
        exact ⟨rfl, v1, ⟨h1, h2, h3, h4⟩, HV.out, HC.out⟩
      · have h8' : (l'.length : Int) < 8 := by omega
        by_cases h5 : 512 < ss[k].size
        · have h5' : 512 < (ss[k].size : Int) := by omega
          go_wp2_with fail
          go_ret
          rw [show pushR l ss = (33, l') from by rw [HP.out, pushR_cons, if_neg h8, if_pos h5]]
          exact ⟨rfl, v1, ⟨h1, h2, h3, h4⟩, HV.out, HC.out⟩
        · have h5' : (ss[k].size : Int) ≤ 512 := by omega
          have hown := h3
          have h4' := h4
          go_wp2_with (at_builtin; go_loud (refine wpList_append_new rfl _ _ 22 rfl elStrM hown rfl _ 1 1 rfl rfl rfl (by unfold maxLen; omega) (by omega) (by decide) ?_; intro g1 cap w1 hown1 hchg hg1; have hblk1 := hchg.obj h1 h4'; have c1 := (cell_of hblk1 0).trans h2; have f1 := frozen_of hblk1 0))
          go_roundw
          case rel =>
            refine ⟨k + 1, l' ++ [ss[k]], by omega, by go_num, stack_put HC.out HV.out ⟨h1, h2, h3, h4⟩ hblk1 hchg hg1 ?_, ?_, by simp; omega⟩
            · simpa using hown1
            · rw [HP.out, pushR_cons, if_neg h8, if_neg (by omega)]
          case measure => simp [intOf]; omega
    · obtain rfl : k = ss.length := by omega
      go_wp2_with fail
      go_ret
      rw [show pushR l ss = (0, l') from by rw [hp, List.drop_length, pushR_nil]]
      exact ⟨rfl, v1, ⟨h1, h2, h3, h4⟩, hv1, hch⟩

/-- Behind a pop the stack is this one; its row lies where it lay. -/
def PopTo (w : World) (b : Nat) (v : Value) (cs : Array Value) (T : TypeId) (l : List ByteArray) (w' : World) : Prop :=
  ∃ v', StackAt w' b v' (cs.setIfInBounds 0 v') T l ∧ (∀ k, v'.ownBlock = some k → v.ownBlock = some k) ∧ Chg (fun k => k = b ∨ v.ownBlock = some k) w w'
theorem PopTo.to {w : World} {b : Nat} {v : Value} {cs : Array Value} {T : TypeId} {l : List ByteArray} {w' : World} (h : PopTo w b v cs T l w') : StackTo w b v cs T l w' := by
  obtain ⟨v', h1, h2, h3⟩ := h
  exact ⟨v', h1, fun k hk => .inl (h2 k hk), h3⟩

/-- A stack's row, shorter. -/
theorem stack_cut {w : World} {b : Nat} {cs : Array Value} {T : TypeId} {l : List ByteArray} {g n cap : Nat} (hS : StackAt w b (.slice (some ⟨g, 0, none⟩) n cap) cs T l) {w1 : World} (hb : Below w.heap.size w w1) {a : Nat} (ha : a ≤ l.length) :
    PopTo w b (.slice (some ⟨g, 0, none⟩) n cap) cs T (l.take a) (w1.setCell ⟨b, 0, none⟩ (.slice (some ⟨g, 0, none⟩) a cap)) := by
  have hbw := heap_lt hS.heap
  have hch : Chg (fun k => w.heap.size ≤ k) w w1 := .of_below hb
  have h1 := hch.obj hS.heap (by omega)
  have hgb : g ≠ b := by have := hS.ne; simpa [Value.ownBlock] using this
  have hsz : 0 < cs.size := by
    have h2 := hS.fst
    rcases Nat.eq_zero_or_pos cs.size with h | h
    · rw [Array.eq_empty_of_size_eq_zero h] at h2
      simp at h2
    · exact h
  obtain ⟨cur, hg, hnc, hcm, hcs, htake⟩ := ownsRow_heap (n := l.length) (by have h := hS.own; have e := (by rcases h.2 with ⟨h', _⟩ | ⟨_, _, _, h', _⟩ <;> simp at h' <;> exact h'.2.1 : n = l.length); subst e; exact h)
  have hgw := heap_lt hg
  refine ⟨.slice (some ⟨g, 0, none⟩) a cap, ⟨?_, ?_, ?_, ?_⟩, ?_, ?_⟩
  · rw [heap_set_same h1 0]
  · simp [hsz]
  · refine ownsRow_setCell_other ?_ (by simpa [Value.ownBlock] using hgb) _
    have hl : (l.take a).length = a := by simp; omega
    rw [hl]
    refine ⟨by simp; omega, .inr ⟨g, cap, cur, rfl, Nat.zero_le _, hch.obj hg (by omega), by omega, hcm, hcs, ?_⟩⟩
    rw [List.map_take, ← htake, List.take_take]
    congr 1
    omega
  · simpa [Value.ownBlock] using hgb
  · intro k hk; exact hk
  · exact (hch.mono (fun i hi h => by omega)).setCell (fun _ => .inl rfl) _

theorem stack_nil {w w' : World} {b : Nat} {cs : Array Value} {T : TypeId} {l : List ByteArray} (hS : StackAt w b (.slice none 0 0) cs T l) (hw : w' = w.setCell ⟨b, 0, none⟩ (.slice none 0 0)) : PopTo w b (.slice none 0 0) cs T l w' := by
  subst hw
  have hsz : 0 < cs.size := by
    have h2 := hS.fst
    rcases Nat.eq_zero_or_pos cs.size with h | h
    · rw [Array.eq_empty_of_size_eq_zero h] at h2
      simp at h2
    · exact h
  refine ⟨.slice none 0 0, ⟨?_, ?_, ?_, ?_⟩, ?_, ?_⟩
  · rw [heap_set_same hS.heap 0]
  · simp [hsz]
  · exact ownsRow_setCell_other hS.own (by simp [Value.ownBlock]) _
  · simp [Value.ownBlock]
  · intro k hk; exact hk
  · exact (Chg.refl _ w).setCell (fun _ => .inl rfl) _

set_option maxHeartbeats 1000000 in
theorem pop_less (w : World) (b : Nat) (v : Value) (cs : Array Value) (T : TypeId) (l : List ByteArray) (hS : StackAt w b v cs T l) (n : Nat) (hn : l.length < n) (hn2 : n ≤ 2) :
    Calls Tryz.prog 93 #[.pointer (some ⟨b, 0, none⟩), .int .i64 n] w (Rets (.tuple #[.slice none 0 0, .bool false]) (fun w' => w = w')) := by
  obtain ⟨h1, h2, h3, h4⟩ := hS
  have hcell : w.cell? ⟨b, 0, none⟩ = some v := (cell_of h1 0).trans h2
  have hlen := fun w ty => run_len_own (P := Tryz.prog) Tryz.underlying22 h3 w ty
  have hn' : (l.length : Int) - n < 0 := by omega
  go_enter Tryz.func93, Tryz.ntmps93
  go_wp2
  all_goals go_ret2
  all_goals exact ⟨rfl, rfl⟩

set_option maxRecDepth 100000 in
set_option maxHeartbeats 1000000 in
theorem pop_ok (w : World) (b : Nat) (v : Value) (cs : Array Value) (T : TypeId) (l : List ByteArray) (hS : StackAt w b v cs T l) (n : Nat) (hn : n ≤ l.length) (hn2 : n ≤ 2) (h8 : l.length ≤ 1000) :
    Calls Tryz.prog 93 #[.pointer (some ⟨b, 0, none⟩), .int .i64 n] w (fun e w' => ∃ lv, e = .returned (.tuple #[lv, .bool true]) ∧
      PopTo w b v cs T (l.take (l.length - n)) w' ∧ w'.ownsRow w.heap.size 9 1 lv n ((l.drop (l.length - n)).map Value.string)) := by
  have hS' := hS
  obtain ⟨h1, h2, h3, h4⟩ := hS
  have hcell : w.cell? ⟨b, 0, none⟩ = some v := (cell_of h1 0).trans h2
  have hfz := frozen_of h1 0
  have hlen := fun w ty => run_len_own (P := Tryz.prog) Tryz.underlying22 h3 w ty
  have hn' : (0 : Int) ≤ (l.length : Int) - n := by omega
  have hbw := heap_lt h1
  rcases h3.2 with ⟨rfl, hz⟩ | ⟨g, cap, cur, rfl, hb', hg, hnc, hcm, hcs, htake⟩
  · have hl0 : l = [] := List.eq_nil_of_length_eq_zero hz
    subst hl0
    obtain rfl : n = 0 := by simpa using hn
    go_enter Tryz.func93, Tryz.ntmps93
    go_wp2_with (go_at_call 77; refine (Tryz.slices_Clone_string_nil _ _ _).mono ?_; rintro e w' ⟨rfl, rfl⟩)
    go_ret2
    refine ⟨_, rfl, stack_nil hS' rfl, World.ownsRow_nil _ _ _ _⟩
  · have hnc' : (l.length : Int) ≤ cap := by omega
    have hg' : g ≠ b := by simpa [Value.ownBlock] using h4
    by_cases hn0 : n = 0
    · subst hn0
      have ht : l.take (l.length - 0) = l := by simp
      have hd : l.drop (l.length - 0) = [] := by simp
      rw [ht, hd]
      have HT := hid htake
      have HC := hid hcs
      clear htake hcs ht hd
      have fin : ∀ (ad : Addr) (c : Nat) (K : Ending → World → Prop), (∀ lv w1, PopTo w b (.slice (some ⟨g, 0, none⟩) l.length cap) cs T l (w1.setCell ⟨b, 0, none⟩ (.slice (some ⟨g, 0, none⟩) l.length cap)) →
          (w1.setCell ⟨b, 0, none⟩ (.slice (some ⟨g, 0, none⟩) l.length cap)).ownsRow w.heap.size 9 1 lv 0 [] → w1.cell? ⟨b, 0, none⟩ = some (.slice (some ⟨g, 0, none⟩) l.length cap) → w1.frozen? ⟨b, 0, none⟩ = false → K (.returned lv) w1) →
          Calls Tryz.prog 77 #[.slice (some ad) 0 c] w K := by
        intro ad c K h
        refine (Tryz.slices_Clone_string_zero ad c w).mono ?_
        rintro e w1 ⟨lv, rfl, hlv, _, hbel⟩
        have hh := (Chg.of_below hbel).obj h1 (by omega)
        refine h lv w1 ?_ (ownsRow_setCell_below hlv hbw _) ((cell_of hh 0).trans h2) (frozen_of hh 0)
        have := stack_cut hS' hbel (a := l.length) (Nat.le_refl _)
        rwa [List.take_length] at this
      clear hS' hg hb' hbw
      by_cases hcap : cap = l.length
      · subst hcap
        go_enter Tryz.func93, Tryz.ntmps93
        go_wp2_with (go_at_call 77; refine fin _ _ _ ?_; intro lv w1 k1 k2 c1 f1)
        go_ret2
        exact ⟨_, rfl, k1, k2⟩
      · go_enter Tryz.func93, Tryz.ntmps93
        go_wp2_with (go_at_call 77; refine fin _ _ _ ?_; intro lv w1 k1 k2 c1 f1)
        go_ret2
        exact ⟨_, rfl, k1, k2⟩
    · obtain ⟨m, hm⟩ : ∃ m, l.length = m + n := ⟨l.length - n, by omega⟩
      have he : (l.length : Int) - (n : Int) = (m : Int) := by omega
      have hm0 : (0 : Int) ≤ (m : Int) := by omega
      have hml : (m : Int) ≤ (l.length : Int) := by omega
      have hmc : (m : Int) ≤ (cap : Int) := by omega
      have hcm' : ¬ cap = m := by omega
      have fin : ∀ (k c : Nat) (K : Ending → World → Prop), k = n → (∀ lv w1, PopTo w b (.slice (some ⟨g, 0, none⟩) l.length cap) cs T (l.take (l.length - n)) (w1.setCell ⟨b, 0, none⟩ (.slice (some ⟨g, 0, none⟩) m cap)) →
          (w1.setCell ⟨b, 0, none⟩ (.slice (some ⟨g, 0, none⟩) m cap)).ownsRow w.heap.size 9 1 lv n ((l.drop (l.length - n)).map Value.string) → w1.cell? ⟨b, 0, none⟩ = some (.slice (some ⟨g, 0, none⟩) l.length cap) → w1.frozen? ⟨b, 0, none⟩ = false → K (.returned lv) w1) →
          Calls Tryz.prog 77 #[.slice (some ⟨g, m, none⟩) k c] w K := by
        intro k c K hk h
        subst hk
        have hlm : l.length - k = m := by omega
        rw [hlm] at h
        refine (Tryz.slices_Clone_string g m k c (l.drop m) w (by simp; omega) (by omega) ?_).mono ?_
        · intro j hj
          rw [List.length_drop] at hj
          have := h3.cellAt (m + j) (by omega)
          rw [this]
          simp [List.getD_eq_getElem?_getD, show m + j < l.length from by omega]
        · rintro e w1 ⟨lv, rfl, hlv, _, hbel⟩
          have hh := (Chg.of_below hbel).obj h1 (by omega)
          rw [List.take_of_length_le (by simp; omega)] at hlv
          exact h lv w1 (stack_cut hS' hbel (by omega)) (ownsRow_setCell_below hlv hbw _) ((cell_of hh 0).trans h2) (frozen_of hh 0)
      have hx : l.length - m = n := by omega
      clear hS' hg hb' hbw
      have HT := hid htake
      have HC := hid hcs
      clear htake hcs
      go_enter Tryz.func93, Tryz.ntmps93
      go_wp2_with (go_at_call 77; refine fin _ _ _ (by omega) ?_; intro lv w1 k1 k2 c1 f1)
      go_ret2
      exact ⟨_, rfl, k1, k2⟩
end Go.Proofs.YthglfmacjoecgaaGreatDoor
namespace Go.Proofs.YthglfmacjoecgaaGreatDoor
open Go.Shelf Go.RowKit Go.Lib
def Tryz.rev_ren : Go.Shelf.Ren := ⟨fun | 35 => 123 | n => n, fun | 22 => 125 | 23 => 5 | 3 => 3 | 4 => 4 | n => n, fun | n => n⟩
theorem Tryz.rev_lays : SlLaysE.n35 Tryz.prog Tryz.rev_ren := {
  mixed := by kernel_rfl
  f35 := ⟨Tryz.f123.name, by decide, Tryz.func123.trans (congrArg some (by kernel_rfl))⟩
  t0 := Tryz.underlying0
  a0 := Tryz.isAgg0
  z0 := Tryz.sizeOf0
  v0 := Tryz.zeroValue0
  t3 := Tryz.underlying3
  a3 := Tryz.isAgg3
  z3 := Tryz.sizeOf3
  v3 := Tryz.zeroValue3
  t4 := Tryz.underlying4
  a4 := Tryz.isAgg4
  z4 := Tryz.sizeOf4
  v4 := Tryz.zeroValue4
  t22 := Tryz.underlying125
  a22 := Tryz.isAgg125
  z22 := Tryz.sizeOf125
  v22 := Tryz.zeroValue125
  a23 := Tryz.isAgg5
  z23 := Tryz.sizeOf5
}
end Go.Proofs.YthglfmacjoecgaaGreatDoor
namespace Go.Proofs.YthglfmacjoecgaaGreatDoor
open Go.RowKit Go.Lib Go.Sort

/-- A blob's bytes the other way round. -/
def revS (s : ByteArray) : ByteArray := { data := s.data.reverse }
theorem revS_size (s : ByteArray) : (revS s).size = s.size := by
  show s.data.reverse.size = s.data.size
  simp
theorem revS_get (s : ByteArray) (i : Nat) (h : i < (revS s).size) : (revS s)[i] = s.data.toList.reverse.toArray[i]'(by rw [revS_size] at h; simpa using h) := by
  have e : s.data.reverse = s.data.toList.reverse.toArray := by rw [← Array.toList_reverse, Array.toArray_toList]
  exact getElem_congr_coll (c := s.data.reverse) (d := s.data.toList.reverse.toArray) (i := i) (w := h) e
def encBM (b : UInt8) : Value := .int .u8 (b.toNat : Int)

set_option maxHeartbeats 1000000 in
theorem turned_any (s : ByteArray) (w : World) (hs : s.size ≤ maxLen) :
    Calls Tryz.prog 98 #[.string s] w (Rets (.string (revS s)) (Chg (fun _ => False) w)) := by
  obtain ⟨w1, cap, hconv, hcell, hfz, hch, hsz, hcap⟩ := conv_bytes (P := Tryz.prog) 9 125 5 Tryz.underlying9 Tryz.underlying125 Tryz.underlying5 w s
  have hH : Holds encBM w1 w.heap.size 0 s.data.toList.toArray := by
    intro j hj
    have hj' : j < s.size := by simpa using hj
    rw [Nat.zero_add]
    refine ⟨?_, hfz j hj'⟩
    rw [hcell j hj', getElem!_pos s.data.toList.toArray j hj]
    rfl
  have hrev : ∀ (n : Nat), n = s.size → ∀ K : Ending → World → Prop, (∀ w2 : World, w2.heap.size = w1.heap.size → (convert 125 9 (.slice (some ⟨w.heap.size, 0, none⟩) s.size cap)).run Tryz.prog w2 = .ok (.string (revS s)) w2 → Chg (fun _ => False) w w2 → K (.returned (.tuple #[])) w2) →
      Calls Tryz.prog 123 #[.slice (some ⟨w.heap.size, 0, none⟩) n cap] w1 K := by
    intro n hn K hK
    have hl : s.data.toList.length = s.size := by simp
    have h := AnyE.slices_Reverse Tryz.rev_lays encBM (fun x => rfl) w.heap.size 0 cap s.data.toList w1 hH (by unfold maxLen at hs; omega)
    rw [hl, ← hn] at h
    refine h.mono ?_
    rintro e w2 ⟨rfl, q, rfl⟩
    refine hK _ (by simp) ?_ ?_
    · have hB : Bytes (putRow encBM (Sort.ahead w1 q) w.heap.size 0 s.data.toList.reverse.toArray) w.heap.size 0 (revS s) := by
        intro i hi
        have hi' : i < s.data.toList.reverse.toArray.size := by have := hi; rw [revS_size] at this; simpa using this
        have := cell?_putRow encBM (Sort.ahead w1 q) w.heap.size 0 s.data.toList.toArray s.data.toList.reverse.toArray hH (by simp) i hi'
        rw [this, getElem!_pos s.data.toList.reverse.toArray i hi']
        rw [revS_get]
        rfl
      have h := run_convert_whole (P := Tryz.prog) _ 125 5 9 Tryz.underlying125 Tryz.underlying5 Tryz.underlying9 w.heap.size 0 (revS s) hB cap
      rw [revS_size] at h
      exact h
    · refine ⟨hch.os, hch.tape, hch.output, ?_, ?_⟩
      · simp; omega
      · intro k hk hn'
        rw [← hch.block k hk hn']
        simp [putRow, mapBlock, Array.getElem?_modify]
        intro e; omega
  have hs' := hs
  unfold maxLen at hs
  go_enter Tryz.func98, Tryz.ntmps98
  go_wp2_with (go_at_call 123; refine hrev _ rfl _ ?_; intro w2 hsz2 hb hch2)
  go_ret
  exact ⟨rfl, hch2⟩
end Go.Proofs.YthglfmacjoecgaaGreatDoor
namespace Go.Proofs.YthglfmacjoecgaaGreatDoor
open Go.RowKit

def machCells (v : Value) (code : ByteArray) (inV : Value) (at_ : Nat) : Array Value := #[v, .string code, inV, .int .i64 at_]

/-- The machine at block b: its stack's row v (blocks from B on are the call's own). -/
structure MachV (B : Nat) (w : World) (b : Nat) (v : Value) (code : ByteArray) (inV : Value) (at_ : Nat) (l : List ByteArray) : Prop where
  st : StackAt w b v (machCells v code inV at_) 121 l
  hb : B ≤ b
  hv : ∀ k, v.ownBlock = some k → B ≤ k

theorem MachV.cell0 {B : Nat} {w : World} {b : Nat} {v : Value} {code : ByteArray} {inV : Value} {at_ : Nat} {l : List ByteArray} (h : MachV B w b v code inV at_ l) : w.cell? ⟨b, 0, none⟩ = some v := cell_of h.st.heap 0
theorem MachV.cell2 {B : Nat} {w : World} {b : Nat} {v : Value} {code : ByteArray} {inV : Value} {at_ : Nat} {l : List ByteArray} (h : MachV B w b v code inV at_ l) : w.cell? ⟨b, 2, none⟩ = some inV := cell_of h.st.heap 2
theorem MachV.cell3 {B : Nat} {w : World} {b : Nat} {v : Value} {code : ByteArray} {inV : Value} {at_ : Nat} {l : List ByteArray} (h : MachV B w b v code inV at_ l) : w.cell? ⟨b, 3, none⟩ = some (.int .i64 at_) := cell_of h.st.heap 3
theorem MachV.lt {B : Nat} {w : World} {b : Nat} {v : Value} {code : ByteArray} {inV : Value} {at_ : Nat} {l : List ByteArray} (h : MachV B w b v code inV at_ l) : b < w.heap.size := heap_lt h.st.heap
theorem MachV.own_lt {B : Nat} {w : World} {b : Nat} {v : Value} {code : ByteArray} {inV : Value} {at_ : Nat} {l : List ByteArray} (h : MachV B w b v code inV at_ l) : ∀ k, v.ownBlock = some k → k < w.heap.size := fun k hk => (World.ownsRow.lt h.st.own k hk).2
theorem MachV.drew {B : Nat} {w : World} {b : Nat} {v : Value} {code : ByteArray} {inV : Value} {at_ : Nat} {l : List ByteArray} (h : MachV B w b v code inV at_ l) : MachV B w.drew b v code inV at_ l := ⟨⟨h.st.heap, h.st.fst, h.st.own, h.st.ne⟩, h.hb, h.hv⟩
theorem MachV.alloc {B : Nat} {w : World} {b : Nat} {v : Value} {code : ByteArray} {inV : Value} {at_ : Nat} {l : List ByteArray} (h : MachV B w b v code inV at_ l) (o : Obj) : MachV B (w.alloc o) b v code inV at_ l :=
  ⟨⟨heap_alloc_old' h.st.heap o, h.st.fst, h.st.own.alloc o, h.st.ne⟩, h.hb, h.hv⟩
theorem MachV.chg {B : Nat} {w w' : World} {b : Nat} {v : Value} {code : ByteArray} {inV : Value} {at_ : Nat} {l : List ByteArray} {F : Nat → Prop} (h : MachV B w b v code inV at_ l) (hc : Chg F w w') (hF : ∀ k, k < w.heap.size → ¬ F k) : MachV B w' b v code inV at_ l :=
  ⟨⟨hc.obj h.st.heap (hF _ h.lt), h.st.fst, hc.owns h.st.own (fun k hk => hF k (h.own_lt k hk)), h.st.ne⟩, h.hb, h.hv⟩
/-- 'm.at = n'. -/
theorem MachV.setAt {B : Nat} {w : World} {b : Nat} {v : Value} {code : ByteArray} {inV : Value} {at_ : Nat} {l : List ByteArray} (h : MachV B w b v code inV at_ l) (n : Nat) : MachV B (w.setCell ⟨b, 3, none⟩ (.int .i64 n)) b v code inV n l :=
  ⟨⟨heap_set_same h.st.heap 3 _, rfl, ownsRow_setCell_other h.st.own h.st.ne _, h.st.ne⟩, h.hb, h.hv⟩
/-- What a push or pop has made of the stack. -/
theorem MachV.to {B : Nat} {w w' : World} {b : Nat} {v : Value} {code : ByteArray} {inV : Value} {at_ : Nat} {l l' : List ByteArray} (h : MachV B w b v code inV at_ l) (hB : B ≤ w.heap.size) (ht : StackTo w b v (machCells v code inV at_) 121 l' w') :
    ∃ v', MachV B w' b v' code inV at_ l' ∧ Chg (fun k => B ≤ k) w w' := by
  obtain ⟨v', h1, h2, h3⟩ := ht
  refine ⟨v', ⟨⟨h1.heap, rfl, h1.own, h1.ne⟩, h.hb, fun k hk => ?_⟩, h3.mono ?_⟩
  · rcases h2 k hk with e | e
    · exact h.hv k e
    · omega
  · rintro i _ (rfl | e)
    · exact h.hb
    · exact h.hv i e

/-- (*stack).pop at a machine, what is taken being named. -/
theorem mpops {B : Nat} {w : World} {b : Nat} {v : Value} {code : ByteArray} {inV : Value} {at_ : Nat} {r ps : List ByteArray} (h : MachV B w b v code inV at_ (r ++ ps)) (hB : B ≤ w.heap.size) (n : Nat) (hn : ps.length = n) (hn2 : n ≤ 2) (h8 : r.length ≤ 900) :
    Calls Tryz.prog 93 #[.pointer (some ⟨b, 0, none⟩), .int .i64 n] w (fun e w' => ∃ lv, e = .returned (.tuple #[lv, .bool true]) ∧
      Chg (fun k => B ≤ k) w w' ∧ w'.ownsRow w.heap.size 9 1 lv n (ps.map Value.string) ∧ ∃ v', MachV B w' b v' code inV at_ r ∧ ∀ k, v'.ownBlock = some k → k < w.heap.size) := by
  subst hn
  refine (pop_ok w b v _ _ _ h.st ps.length (by simp) hn2 (by simp; omega)).mono ?_
  rintro e w' ⟨lv, rfl, ht, ho⟩
  have e1 : (r ++ ps).length - ps.length = r.length := by simp
  rw [e1, List.drop_left] at ho
  rw [e1, List.take_left] at ht
  obtain ⟨v', h1, h2⟩ := h.to hB ht.to
  obtain ⟨v2, k1, k2, _⟩ := ht
  have h3 := cell_of k1.heap 0
  have h4 := h1.cell0
  have e2 : v' = v2 := by
    have h5 := (cell_of k1.heap 0).trans k1.fst
    rw [h5] at h4
    exact (Option.some.inj h4).symm
  subst e2
  exact ⟨lv, rfl, h2, ho, v', h1, fun k hk => h.own_lt k (k2 k hk)⟩

theorem cell_alloc_drew {W : World} {a : Addr} {u : Value} (h : W.cell? a = some u) (o : Obj) : (W.alloc o).drew.cell? a = some u :=
  (((Chg.refl (fun _ => False) W).alloc o).drew).cell h (fun h => h)

/-- (*stack).push at a machine, the list just laid, an order drawn. -/
theorem mpush_drew {B : Nat} {w : World} {b : Nat} {v : Value} {code : ByteArray} {inV : Value} {at_ : Nat} {l : List ByteArray} (h : MachV B w b v code inV at_ l) (hB : B ≤ w.heap.size) (ss : List ByteArray) (hn2 : ss.length ≤ 100) (arr : Array Value) (ha : arr = (ss.map Value.string).toArray) (g n c : Nat) (hgw : g = w.heap.size) (hn : n = ss.length) (hsz : ∀ s ∈ ss, s.size ≤ maxLen) (hl : l.length ≤ 1000) :
    Calls Tryz.prog 97 #[.pointer (some ⟨b, 0, none⟩), .slice (some ⟨g, 0, none⟩) n c] (w.alloc (.cells arr 9)).drew
      (Rets (.int .i64 (pushR l ss).1) (fun w' => Chg (fun k => B ≤ k) w w' ∧ Chg (fun k => k = b ∨ v.ownBlock = some k) w w' ∧ ∃ v', MachV B w' b v' code inV at_ (pushR l ss).2)) := by
  subst ha hn hgw
  have h' : MachV B (w.alloc (.cells (ss.map Value.string).toArray 9)).drew b v code inV at_ l := (h.alloc _).drew
  refine (push_any _ b v _ _ l h'.st w.heap.size _ c ss rfl hn2 ?_ ?_ ?_ hsz hl).mono ?_
  · intro i hi
    have : (w.alloc (.cells (ss.map Value.string).toArray 9)).heap[w.heap.size]? = some (.cells (ss.map Value.string).toArray 9 (0, 0)) := heap_alloc_new w _
    have := cell_of this i
    refine this.trans ?_
    simp [hi]
  · have := h.lt; omega
  · intro e; have := h.own_lt _ e; omega
  · rintro e w' ⟨rfl, ht⟩
    have hc : Chg (fun k => k = b ∨ v.ownBlock = some k) w w' := ((((Chg.refl _ w).alloc _).drew).trans (let ⟨_, _, _, h3⟩ := ht; h3) (fun _ _ h => h))
    obtain ⟨v', h1, h2⟩ := h'.to (by simp; omega) ht
    exact ⟨rfl, (((Chg.refl _ w).alloc _).drew).trans h2 (fun _ _ h => h), hc, v', h1⟩

/-- What a step that pushes leaves. -/
def Stepped (B : Nat) (w : World) (b : Nat) (code : ByteArray) (inV : Value) (at_ : Nat) (q : Nat × List ByteArray) : Ending → World → Prop :=
  Rets (.int .i64 q.1) (fun w' => Chg (fun k => B ≤ k) w w' ∧ ∃ v', MachV B w' b v' code inV at_ q.2)
theorem stepped {B b : Nat} {w w1 w' : World} {u : Value} (h1 : Chg (fun k => B ≤ k) w.drew w1) (h2 : Chg (fun k => B ≤ k) (w1.setCell ⟨b, 3, none⟩ u) w') (hb : B ≤ b) : Chg (fun k => B ≤ k) w w' :=
  ((((Chg.refl _ w).drew).trans h1 (fun _ _ h => h)).setCell (p := ⟨b, 3, none⟩) (fun _ => hb) u).trans h2 (fun _ _ h => h)
end Go.Proofs.YthglfmacjoecgaaGreatDoor
