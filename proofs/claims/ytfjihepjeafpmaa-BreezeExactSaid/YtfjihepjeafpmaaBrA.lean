/- Small functions of breeze walked. -/
import Derived.Test.YtfjihepjeafpmaaRows
import Derived.Test.YtfjihepjeafpmaaBase
import Derived.Test.YtfjihepjeafpmaaMaps
namespace Go.Proofs.Ytfjihepjeafpmaa
open Go.RowKit

def pairB (x y : Int) : Bool := decide (1 ≤ x) && decide (x ≤ 6) && decide (1 ≤ y) && decide (y ≤ 6) && !(x == y)

set_option maxHeartbeats 400000 in
theorem arePair_any (x y : Int) (w : World) :
    Calls Try.prog 26 #[.int .i64 x, .int .i64 y] w (Rets (.bool (pairB x y)) (fun w' => w = w')) := by
  go_enter Try.func26, Try.ntmps26
  go_wp2
  all_goals go_ret
  all_goals exact ⟨by unfold pairB; congr 2; simp [*, bne]; try omega, rfl⟩

structure Ld where
  fr : Int
  to : Int
  by_ : ByteArray
  fl : Bool
def Ld.cells (l : Ld) : List Value := [.int .i64 l.fr, .int .i64 l.to, .string l.by_, .bool l.fl]
def flat (ls : List Ld) : List Value := ls.flatMap Ld.cells

def encP (p : Int × Int) : Value := .agg #[.int .i64 p.1, .int .i64 p.2]

/-- Block b is a Breeze; its loads are ls, in v; its map is block mb. -/
structure BrAt (w : World) (b mb : Nat) (v : Value) (ls : List Ld) (l : List ((Int × Int) × Bool)) : Prop where
  blk : w.heap[b]? = some (.cells #[v, .map (some mb)] 58 (0, 0))
  own : w.ownsRow 0 29 4 v ls.length (flat ls)
  ne : v.ownBlock ≠ some b
  map : MapL w mb encP Value.bool l
  le : ls.length ≤ 200

theorem BrAt.ne2 {w : World} {b mb : Nat} {v : Value} {ls : List Ld} {l : List ((Int × Int) × Bool)} (h : BrAt w b mb v ls l) : v.ownBlock ≠ some mb := by
  intro e
  obtain ⟨es, clock, h1, _⟩ := h.map
  rcases h.own.2 with ⟨rfl, _⟩ | ⟨g, cap, cur, rfl, _, hg, _⟩
  · cases e
  · simp [Value.ownBlock] at e; subst e; rw [hg] at h1; cases h1
theorem BrAt.ne3 {w : World} {b mb : Nat} {v : Value} {ls : List Ld} {l : List ((Int × Int) × Bool)} (h : BrAt w b mb v ls l) : mb ≠ b := by
  rintro rfl
  obtain ⟨es, clock, h1, _⟩ := h.map
  rw [h.blk] at h1; cases h1

/-- What a call on a Breeze leaves behind. -/
def BrPost (w : World) (b mb : Nat) (v : Value) (ls : List Ld) (l : List ((Int × Int) × Bool)) (w' : World) : Prop :=
  ∃ v', BrAt w' b mb v' ls l ∧ Chg (fun k => k = b ∨ k = mb ∨ v.ownBlock = some k) w w' ∧ (∀ k, v'.ownBlock = some k → v.ownBlock = some k ∨ w.heap.size ≤ k)
theorem BrAt.post {w : World} {b mb : Nat} {v : Value} {ls : List Ld} {l : List ((Int × Int) × Bool)} (h : BrAt w b mb v ls l) : BrPost w b mb v ls l w := ⟨v, h, Chg.refl _ _, fun _ h => .inl h⟩

theorem flat_append (a b : List Ld) : flat (a ++ b) = flat a ++ flat b := by simp [flat]
theorem flat_length (a : List Ld) : (flat a).length = a.length * 4 := by
  induction a with
  | nil => rfl
  | cons x r ih => simp only [flat, List.flatMap_cons, List.length_append, List.length_cons] at ih ⊢; rw [ih]; simp [Ld.cells]; omega

theorem elLoad : ElT Try.prog 54 29 4 40 := ElT.mk' (z := .agg #[.int .i64 0, .int .i64 0, .string ByteArray.empty, .bool false]) (by kernel_rfl) (by kernel_rfl) rfl (by decide) rfl


/-- The loads behind Put. -/
def putRes (ls : List Ld) (fr to : Int) (s : ByteArray) : Int := if !(pairB fr to) || decide (4096 < s.size) then 1 else if 200 ≤ ls.length then 11 else 0
def putLs (ls : List Ld) (fr to : Int) (s : ByteArray) : List Ld := if putRes ls fr to s = 0 then ls ++ [⟨fr, to, s, false⟩] else ls

section
variable {w : World} {b mb : Nat} {v : Value} {ls : List Ld} {l : List ((Int × Int) × Bool)}

set_option maxRecDepth 100000 in
set_option maxHeartbeats 400000 in
theorem put_ok (fr to : Int) (s : ByteArray) (h : BrAt w b mb v ls l) (hp : pairB fr to = true) (hs : s.size ≤ 4096) (hl : ls.length < 200) :
    Calls Try.prog 10 #[.pointer (some ⟨b, 0, none⟩), .int .i64 fr, .int .i64 to, .string s] w (Rets (.int .i64 0) (BrPost w b mb v (ls ++ [⟨fr, to, s, false⟩]) l)) := by
  have H := hid h
  have hblk := h.blk
  have hown := h.own
  have hne := h.ne
  have c0 := cell_of hblk 0
  have f0 := frozen_of hblk 0
  simp at c0
  clear h
  have hlen := run_len_own (P := Try.prog) Try.underlying54 hown
  have hb := heap_lt hblk
  go_enter Try.func10, Try.ntmps10
  go_wp2_with (first | (go_at_call 26; refine (arePair_any _ _ _).mono ?_; rintro e w' ⟨rfl, rfl⟩) | (at_builtin; go_loud (refine wpList_append_new rfl _ _ 54 rfl elLoad hown rfl _ 1 1 rfl rfl rfl (by unfold maxLen; omega) (by omega) (by decide) ?_; intro g cap w1 hown1 hchg hg; have hblk1 := hchg.obj hblk hne; have c1 := cell_of hblk1 0; have f1 := frozen_of hblk1 0; simp at c1)))
  go_ret
  have hgb : g ≠ b := by
    rintro rfl
    rcases hg with h | h
    · exact hne h
    · omega
  refine ⟨rfl, ⟨_, ⟨heap_set_same hblk1 0 _, ?_, ?_, ?_, ?_⟩, ?_, ?_⟩⟩
  · rw [flat_append, List.length_append]
    exact ownsRow_setCell_other hown1 (by simpa [Value.ownBlock] using hgb) _
  · simpa [Value.ownBlock] using hgb
  · refine (H.out.map.chg hchg H.out.ne2).chg ((Chg.refl (fun k => k = b) w1).setCell (fun _ => rfl) _) H.out.ne3
  · simp; omega
  · exact (hchg.mono (fun _ _ h => .inr (.inr h))).setCell (fun _ => .inl rfl) _
  · intro k hk
    simp [Value.ownBlock] at hk
    subst hk
    exact hg

set_option maxRecDepth 100000 in
set_option maxHeartbeats 400000 in
theorem put_no (fr to : Int) (s : ByteArray) (h : BrAt w b mb v ls l) (hr : putRes ls fr to s ≠ 0) (hs64 : s.size ≤ 9223372036854775807) :
    Calls Try.prog 10 #[.pointer (some ⟨b, 0, none⟩), .int .i64 fr, .int .i64 to, .string s] w (Rets (.int .i64 (putRes ls fr to s)) (fun w' => w = w')) := by
  have hblk := h.blk
  have hown := h.own
  have c0 := cell_of hblk 0
  simp at c0
  have hle := h.le
  clear h
  have hlen := run_len_own (P := Try.prog) Try.underlying54 hown
  unfold putRes at hr ⊢
  by_cases hp : pairB fr to = true
  · by_cases hs : s.size ≤ 4096
    · by_cases hl : ls.length < 200
      · exfalso; apply hr; rw [if_neg (by simp [hp]; omega), if_neg (by omega)]
      · have e : (if !(pairB fr to) || decide (4096 < s.size) then (1 : Int) else if 200 ≤ ls.length then 11 else 0) = 11 := by rw [if_neg (by simp [hp]; omega), if_pos (by omega)]
        rw [e]; clear e hr
        have hl' : 200 ≤ (ls.length : Int) := by omega
        go_enter Try.func10, Try.ntmps10
        go_wp2_with (first | (go_at_call 26; refine (arePair_any _ _ _).mono ?_; rintro e w' ⟨rfl, rfl⟩))
        go_ret
        exact ⟨rfl, rfl⟩
    · have e : (if !(pairB fr to) || decide (4096 < s.size) then (1 : Int) else if 200 ≤ ls.length then 11 else 0) = 1 := by rw [if_pos (by simp [hp]; omega)]
      rw [e]; clear e hr
      have hs' : 4096 < (s.size : Int) := by omega
      go_enter Try.func10, Try.ntmps10
      go_wp2_with (first | (go_at_call 26; refine (arePair_any _ _ _).mono ?_; rintro e w' ⟨rfl, rfl⟩))
      go_ret
      exact ⟨rfl, rfl⟩
  · have hp' : pairB fr to = false := by simpa using hp
    have e : (if !(pairB fr to) || decide (4096 < s.size) then (1 : Int) else if 200 ≤ ls.length then 11 else 0) = 1 := by rw [if_pos (by simp [hp'])]
    rw [e]; clear e hr hp
    go_enter Try.func10, Try.ntmps10
    go_wp2_with (first | (go_at_call 26; refine (arePair_any _ _ _).mono ?_; rintro e w' ⟨rfl, rfl⟩))
    all_goals go_ret
    all_goals exact ⟨rfl, rfl⟩

theorem put_any (fr to : Int) (s : ByteArray) (h : BrAt w b mb v ls l) (hs64 : s.size ≤ 9223372036854775807) :
    Calls Try.prog 10 #[.pointer (some ⟨b, 0, none⟩), .int .i64 fr, .int .i64 to, .string s] w (Rets (.int .i64 (putRes ls fr to s)) (BrPost w b mb v (putLs ls fr to s) l)) := by
  by_cases hr : putRes ls fr to s = 0
  · have h2 := hr
    unfold putRes at h2
    split at h2
    · omega
    · rename_i h3
      split at h2
      · omega
      · rename_i h4
        simp at h3
        rw [hr]; unfold putLs; rw [if_pos hr]
        exact put_ok fr to s h h3.1 h3.2 (by omega)
  · refine (put_no fr to s h hr hs64).mono ?_
    rintro e w' ⟨rfl, rfl⟩
    refine ⟨rfl, ?_⟩
    unfold putLs; rw [if_neg hr]
    exact h.post

set_option maxHeartbeats 400000 in
theorem new_any (w : World) : Calls Try.prog 9 #[] w
    (Rets (.pointer (some ⟨w.heap.size + 1, 0, none⟩)) (fun w' => BrAt w' (w.heap.size + 1) w.heap.size (.slice none 0 0) [] [] ∧ Chg (fun _ => False) w w')) := by
  have hmm := @run_makeMap Try.prog
  go_enter Try.func9, Try.ntmps9
  go_wp2
  go_ret
  refine ⟨by simp, ⟨?_, ?_, ?_, ?_, ?_⟩, ?_⟩
  · have := heap_alloc_new (w.alloc (.map #[] 0)) (.cells #[.slice none 0 0, .map (some w.heap.size)] 58)
    simpa using this
  · exact World.ownsRow_nil _ _ _ _
  · simp [Value.ownBlock]
  · exact (MapL.fresh w).chg ((Chg.refl (fun _ => False) _).alloc _) (fun h => h)
  · simp
  · exact ((Chg.refl _ w).alloc _).alloc _

set_option maxHeartbeats 400000 in
theorem len_any (h : BrAt w b mb v ls l) : Calls Try.prog 22 #[.pointer (some ⟨b, 0, none⟩)] w (Rets (.int .i64 ls.length) (fun w' => w = w')) := by
  have c0 := cell_of h.blk 0
  simp at c0
  have hlen := run_len_own (P := Try.prog) Try.underlying54 h.own
  clear h
  go_enter Try.func22, Try.ntmps22
  go_wp2
  go_ret
  exact ⟨rfl, rfl⟩
def isB (ls : List Ld) (at_ : Int) : Bool := decide (0 ≤ at_) && decide (at_ < ls.length)
set_option maxHeartbeats 400000 in
theorem is_any (h : BrAt w b mb v ls l) (at_ : Int) : Calls Try.prog 27 #[.pointer (some ⟨b, 0, none⟩), .int .i64 at_] w (Rets (.bool (isB ls at_)) (fun w' => w = w')) := by
  go_enter Try.func27, Try.ntmps27
  go_wp2_with (go_at_call 22; refine (len_any h).mono ?_; rintro e w' ⟨rfl, rfl⟩)
  all_goals go_ret
  all_goals exact ⟨by unfold isB; congr 2; simp [*]; try omega, rfl⟩
end
end Go.Proofs.Ytfjihepjeafpmaa
