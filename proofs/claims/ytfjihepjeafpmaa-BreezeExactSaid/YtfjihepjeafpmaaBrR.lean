/- apiaryref20 walked: node, Put, Set, Apart. -/
import Derived.Test.YtfjihepjeafpmaaBrQ
namespace Go.Proofs.Ytfjihepjeafpmaa
open Go.RowKit

/-- Block u is a Breeze of the reference: its loads are ls, in v; its table is A. -/
structure RfAt (w : World) (u : Nat) (v : Value) (ls : List Ld) (A : List Bool) : Prop where
  blk : w.heap[u]? = some (.cells (v :: A.map Value.bool).toArray 44 (0, 0))
  own : w.ownsRow 0 47 4 v ls.length (flat ls)
  ne : v.ownBlock ≠ some u
  le : ls.length ≤ 200
  len : A.length = 49
def RfPost (w : World) (u : Nat) (v : Value) (ls : List Ld) (A : List Bool) (w' : World) : Prop :=
  ∃ v', RfAt w' u v' ls A ∧ Chg (fun k => k = u ∨ v.ownBlock = some k) w w' ∧ (∀ k, v'.ownBlock = some k → v.ownBlock = some k ∨ w.heap.size ≤ k)
theorem RfAt.post {w : World} {u : Nat} {v : Value} {ls : List Ld} {A : List Bool} (h : RfAt w u v ls A) : RfPost w u v ls A w := ⟨v, h, Chg.refl _ _, fun _ h => .inl h⟩
theorem RfAt.chg {w w' : World} {u : Nat} {v : Value} {ls : List Ld} {A : List Bool} {F : Nat → Prop} (h : RfAt w u v ls A) (hc : Chg F w w') (h1 : ¬ F u) (h3 : ∀ k, v.ownBlock = some k → ¬ F k) : RfAt w' u v ls A :=
  ⟨hc.obj h.blk h1, hc.owns h.own h3, h.ne, h.le, h.len⟩
theorem RfAt.post_chg {w w' : World} {u : Nat} {v : Value} {ls : List Ld} {A : List Bool} (h : RfAt w u v ls A) (hc : Chg (fun _ => False) w w') : RfPost w u v ls A w' :=
  ⟨v, h.chg hc (fun h => h) (fun _ _ h => h), hc.mono (fun _ _ h => h.elim), fun _ h => .inl h⟩
theorem RfAt.c0 {w : World} {u : Nat} {v : Value} {ls : List Ld} {A : List Bool} (h : RfAt w u v ls A) : w.cell? ⟨u, 0, none⟩ = some v := (cell_of h.blk 0).trans rfl
theorem RfAt.cA {w : World} {u : Nat} {v : Value} {ls : List Ld} {A : List Bool} (h : RfAt w u v ls A) (i : Nat) (hi : i < 49) : w.cell? ⟨u, 1 + i, none⟩ = some (.bool (A.getD i false)) := by
  have := h.len
  rw [cell_of h.blk]
  simp [Nat.add_comm 1 i, List.getD_eq_getElem?_getD, show i < A.length by omega]
theorem RfAt.fz {w : World} {u : Nat} {v : Value} {ls : List Ld} {A : List Bool} (h : RfAt w u v ls A) (i : Nat) : w.frozen? ⟨u, i, none⟩ = false := frozen_of h.blk i
theorem RfAt.setA {w : World} {u : Nat} {v : Value} {ls : List Ld} {A : List Bool} (h : RfAt w u v ls A) (i : Nat) (b : Bool) : RfAt (w.setCell ⟨u, 1 + i, none⟩ (.bool b)) u v ls (A.set i b) := by
  have hc : Chg (fun k => k = u) w (w.setCell ⟨u, 1 + i, none⟩ (.bool b)) := (Chg.refl (fun k => k = u) w).setCell (fun _ => rfl) _
  refine ⟨?_, hc.owns h.own (fun k hk e => h.ne (by rw [hk, e])), h.ne, h.le, by simp [h.len]⟩
  rw [heap_set_same h.blk (1 + i) (.bool b)]
  simp [Nat.add_comm 1 i, List.map_set]
theorem RfAt.setV {w w' : World} {u : Nat} {v v' : Value} {ls ls' : List Ld} {A : List Bool} (h : RfAt w u v ls A) (hown : w'.ownsRow 0 47 4 v' ls'.length (flat ls')) (hch : Chg (fun k => v.ownBlock = some k) w w') (hg : ∀ k, v'.ownBlock = some k → v.ownBlock = some k ∨ w.heap.size ≤ k) (hl : ls'.length ≤ 200) :
    RfPost w u v ls' A (w'.setCell ⟨u, 0, none⟩ v') := by
  have hblk := hch.obj h.blk h.ne
  have hlt := heap_lt h.blk
  have hu : v'.ownBlock ≠ some u := fun e => by
    rcases hg u e with h1 | h1
    · exact h.ne h1
    · omega
  have hc : Chg (fun k => k = u) w' (w'.setCell ⟨u, 0, none⟩ v') := (Chg.refl (fun k => k = u) w').setCell (fun _ => rfl) _
  refine ⟨v', ⟨?_, hc.owns hown (fun k hk e => hu (by rw [hk, e])), hu, hl, h.len⟩, (hch.mono (fun _ _ h => .inr h)).trans hc (fun _ _ h => .inl h), hg⟩
  rw [heap_set_same hblk 0 v']
  simp
theorem elLoad2 : ElT Try.prog 40 47 4 40 := ElT.mk' (z := .agg #[.int .i64 0, .int .i64 0, .string ByteArray.empty, .bool false]) (by kernel_rfl) (by kernel_rfl) rfl (by decide) rfl

set_option maxHeartbeats 400000 in
theorem node_any (x : Int) (w : World) : Calls Try.prog 29 #[.int .i64 x] w (Rets (.bool (nodeB x)) (fun w' => w = w')) := by
  go_enter Try.func29, Try.ntmps29
  go_wp2
  all_goals go_ret
  all_goals exact ⟨by unfold nodeB; congr 2; simp [*]; try omega, rfl⟩
theorem pairB_node (x y : Int) : pairB x y = (nodeB x && (nodeB y && !(x == y))) := by
  unfold pairB nodeB; simp [Bool.and_assoc]

section
variable {w : World} {u : Nat} {v : Value} {ls : List Ld} {A : List Bool}

theorem putRes_1 {ls : List Ld} {fr to : Int} {s : ByteArray} (h : nodeB fr = false ∨ nodeB to = false ∨ fr = to ∨ 4096 < s.size) : putRes ls fr to s = 1 := by
  unfold putRes
  rw [if_pos]
  rw [pairB_node]
  rcases h with h | h | h | h <;> simp [h]
theorem putRes_2 {ls : List Ld} {fr to : Int} {s : ByteArray} (h1 : nodeB fr = true) (h2 : nodeB to = true) (h3 : ¬ fr = to) (h4 : ¬ 4096 < s.size) : putRes ls fr to s = if 200 ≤ ls.length then 11 else 0 := by
  unfold putRes
  rw [if_neg]
  rw [pairB_node, h1, h2]
  simp [h3]; omega

set_option maxRecDepth 100000 in
set_option maxHeartbeats 1000000 in
theorem rput_no (fr to : Int) (s : ByteArray) (h : RfAt w u v ls A) (hr : putRes ls fr to s ≠ 0) (hs64 : s.size ≤ 9223372036854775807) :
    Calls Try.prog 15 #[.pointer (some ⟨u, 0, none⟩), .int .i64 fr, .int .i64 to, .string s] w (Rets (.int .i64 (putRes ls fr to s)) (fun w' => w = w')) := by
  have c0 := h.c0
  have hlen := run_len_own (P := Try.prog) Try.underlying40 h.own
  clear h
  by_cases n1 : nodeB fr = true
  · by_cases n2 : nodeB to = true
    · by_cases n3 : fr = to
      · rw [putRes_1 (.inr (.inr (.inl n3)))]
        have b3 : (fr == to) = true := by simpa using n3
        clear n3 hr
        go_enter Try.func15, Try.ntmps15
        go_wp2_with (go_at_call 29; refine (node_any _ _).mono ?_; rintro e w' ⟨rfl, rfl⟩)
        go_ret
        exact ⟨rfl, rfl⟩
      · by_cases n4 : 4096 < s.size
        · rw [putRes_1 (.inr (.inr (.inr n4)))]
          have b3 : (fr == to) = false := by simpa using n3
          have n4' : (4096 : Int) < (s.size : Int) := by omega
          clear n4 hr
          go_enter Try.func15, Try.ntmps15
          go_wp2_with (go_at_call 29; refine (node_any _ _).mono ?_; rintro e w' ⟨rfl, rfl⟩)
          go_ret
          exact ⟨rfl, rfl⟩
        · rw [putRes_2 n1 n2 n3 n4] at hr ⊢
          by_cases n5 : 200 ≤ ls.length
          · rw [if_pos n5]
            have b3 : (fr == to) = false := by simpa using n3
            have n4' : ¬ (4096 : Int) < (s.size : Int) := by omega
            have d4 : decide ((4096 : Int) < (s.size : Int)) = false := decide_eq_false n4'
            have n5' : (200 : Int) ≤ (ls.length : Int) := by omega
            clear n4 hr n5
            go_enter Try.func15, Try.ntmps15
            go_wp2_with (go_at_call 29; refine (node_any _ _).mono ?_; rintro e w' ⟨rfl, rfl⟩)
            go_ret
            exact ⟨rfl, rfl⟩
          · rw [if_neg n5] at hr
            exact absurd rfl hr
    · have n2' : nodeB to = false := by simpa using n2
      rw [putRes_1 (.inr (.inl n2'))]
      clear n2 hr
      go_enter Try.func15, Try.ntmps15
      go_wp2_with (go_at_call 29; refine (node_any _ _).mono ?_; rintro e w' ⟨rfl, rfl⟩)
      go_ret
      exact ⟨rfl, rfl⟩
  · have n1' : nodeB fr = false := by simpa using n1
    rw [putRes_1 (.inl n1')]
    clear n1 hr
    go_enter Try.func15, Try.ntmps15
    go_wp2_with (go_at_call 29; refine (node_any _ _).mono ?_; rintro e w' ⟨rfl, rfl⟩)
    go_ret
    exact ⟨rfl, rfl⟩
set_option maxRecDepth 100000 in
set_option maxHeartbeats 1000000 in
theorem rput_ok (fr to : Int) (s : ByteArray) (h : RfAt w u v ls A) (n1 : nodeB fr = true) (n2 : nodeB to = true) (n3 : ¬ fr = to) (hs : s.size ≤ 4096) (hl : ls.length < 200) :
    Calls Try.prog 15 #[.pointer (some ⟨u, 0, none⟩), .int .i64 fr, .int .i64 to, .string s] w (Rets (.int .i64 0) (RfPost w u v (ls ++ [⟨fr, to, s, false⟩]) A)) := by
  have H := hid h
  have hown := h.own
  have hblk := h.blk
  have hne := h.ne
  have c0 := h.c0
  have f0 := h.fz 0
  have HB := hid hblk
  clear h hblk
  have hlen := run_len_own (P := Try.prog) Try.underlying40 hown
  have b3 : (fr == to) = false := by simpa using n3
  have n4' : ¬ (4096 : Int) < (s.size : Int) := by omega
  have d4 : decide ((4096 : Int) < (s.size : Int)) = false := decide_eq_false n4'
  have n5' : ¬ (200 : Int) ≤ (ls.length : Int) := by omega
  have d5 : decide ((200 : Int) ≤ (ls.length : Int)) = false := decide_eq_false n5'
  go_enter Try.func15, Try.ntmps15
  go_wp2_with (first | (go_at_call 29; refine (node_any _ _).mono ?_; rintro e w' ⟨rfl, rfl⟩) | (at_builtin; go_loud (refine wpList_append_new rfl _ _ 40 rfl elLoad2 hown rfl _ 1 1 rfl rfl rfl (by unfold maxLen; omega) (by omega) (by decide) ?_); intro g cap w1 hown1 hchg hg; have hblk1 := hchg.obj HB.out hne; have c1 := (cell_of hblk1 0).trans rfl; have f1 := frozen_of hblk1 0))
  go_ret
  refine ⟨rfl, H.out.setV (ls' := ls ++ [⟨fr, to, s, false⟩]) ?_ hchg (fun k hk => by simp [Value.ownBlock] at hk; subst hk; exact hg) (by simp; omega)⟩
  rw [flat_append, List.length_append]
  exact hown1
theorem rput_any (fr to : Int) (s : ByteArray) (h : RfAt w u v ls A) (hs64 : s.size ≤ 9223372036854775807) :
    Calls Try.prog 15 #[.pointer (some ⟨u, 0, none⟩), .int .i64 fr, .int .i64 to, .string s] w (Rets (.int .i64 (putRes ls fr to s)) (RfPost w u v (putLs ls fr to s) A)) := by
  by_cases hr : putRes ls fr to s = 0
  · have h2 := hr
    unfold putRes at h2
    split at h2
    · omega
    · rename_i h3
      split at h2
      · omega
      · rename_i h4
        simp at h3
        rw [hr]; unfold putLs; rw [if_pos hr]
        have hp := h3.1
        rw [pairB_node] at hp
        simp at hp
        exact rput_ok fr to s h hp.1 hp.2.1 hp.2.2 h3.2 (by omega)
  · refine (rput_no fr to s h hr hs64).mono ?_
    rintro e w' ⟨rfl, rfl⟩
    refine ⟨rfl, ?_⟩
    unfold putLs; rw [if_neg hr]
    exact h.post
end
end Go.Proofs.Ytfjihepjeafpmaa
