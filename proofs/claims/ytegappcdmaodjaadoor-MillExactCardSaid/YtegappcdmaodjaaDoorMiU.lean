/- What every run answers; the law MillEnds walked. -/
import Derived.Test.YtegappcdmaodjaaDoorMiO
import Derived.Test.YtegappcdmaodjaaDoorMiW
namespace Go.Proofs.YtegappcdmaodjaaDoor
open Go.RowKit

/-- What is true of every run's answer. -/
structure RunFacts (r : (Nat × ByteArray) × Nat) : Prop where
  n : r.2 ≤ 300
  blob : r.1.2.size ≤ 512
  none : r.1.1 ≠ 0 → r.1.2 = { data := #[] }
  code : r.1.1 = 0 ∨ r.1.1 = 4 ∨ r.1.1 = 31 ∨ r.1.1 = 32 ∨ r.1.1 = 30 ∨ r.1.1 = 33
  fuel : r.1.1 = 30 → r.2 = 300
theorem pushR_codes (l ss : List ByteArray) : (pushR l ss).1 = 0 ∨ (pushR l ss).1 = 31 ∨ (pushR l ss).1 = 33 := by
  induction ss generalizing l with
  | nil => exact .inl rfl
  | cons s ss ih => rw [pushR_cons]; split; · exact .inr (.inl rfl)
                    split; · exact .inr (.inr rfl)
                    exact ih _
theorem stepR_codes (H : ByteArray → ByteArray) (ins : List ByteArray) (c : UInt8) (n : Nat) (s : ByteArray) (at_ : Nat) (l : List ByteArray) :
    (stepR H ins c n s at_ l).1 = 0 ∨ (stepR H ins c n s at_ l).1 = 31 ∨ (stepR H ins c n s at_ l).1 = 32 ∨ (stepR H ins c n s at_ l).1 = 33 := by
  unfold stepR
  split
  · exact .inr (.inr (.inl rfl))
  split
  · exact .inr (.inl rfl)
  · rcases pushR_codes (l.take (l.length - takeN c)) (putsR H ins c n s ((l.drop (l.length - takeN c)).getD 0 .empty) ((l.drop (l.length - takeN c)).getD 1 .empty)) with h | h | h
    · exact .inl h
    · exact .inr (.inl h)
    · exact .inr (.inr (.inr h))
theorem endR_facts (l : List ByteArray) (n : Nat) (hn : n ≤ 300) (h : ∀ x ∈ l, x.size ≤ 512) : RunFacts (endR l, n) := by
  unfold endR
  split
  · exact ⟨hn, Nat.zero_le _, fun _ => rfl, .inr (.inr (.inl rfl)), fun h => by simp at h⟩
  · rename_i b hb
    exact ⟨hn, h b (List.mem_of_getLast? hb), fun h => absurd rfl h, .inl rfl, fun h => by simp at h⟩
theorem runR_facts (H : ByteArray → ByteArray) (code : ByteArray) (hc : code.size ≤ 64) (ins : List ByteArray) (f : Nat) : ∀ (at_ n : Nat) (l : List ByteArray), n + f = 300 → l.length ≤ 8 → (∀ x ∈ l, x.size ≤ 512) → RunFacts (runR H code ins f at_ n l) := by
  induction f with
  | zero =>
    intro at_ n l hn h1 h2
    by_cases he : at_ = code.size
    · rw [runR_end _ _ he]; exact endR_facts l n (by omega) h2
    · by_cases ho : code.size < at_ ∨ widN code at_ = 0
      · rw [runR_op _ _ he ho]; exact ⟨by show n ≤ 300; omega, Nat.zero_le _, fun _ => rfl, .inr (.inr (.inr (.inl rfl))), fun h => by simp at h⟩
      · rw [runR_fuel _ he ho]; exact ⟨by show n ≤ 300; omega, Nat.zero_le _, fun _ => rfl, .inr (.inr (.inr (.inr (.inl rfl)))), fun _ => by show n = 300; omega⟩
  | succ f ih =>
    intro at_ n l hn h1 h2
    by_cases he : at_ = code.size
    · rw [runR_end _ _ he]; exact endR_facts l n (by omega) h2
    · by_cases ho : code.size < at_ ∨ widN code at_ = 0
      · rw [runR_op _ _ he ho]; exact ⟨by show n ≤ 300; omega, Nat.zero_le _, fun _ => rfl, .inr (.inr (.inr (.inl rfl))), fun h => by simp at h⟩
      · rw [runR_step f n he ho rfl rfl]
        have hsz : (code.extract at_ (at_ + widN code at_)).size ≤ 64 := by simp; omega
        have hat : at_ ≤ 64 := by omega
        have hok := stepR_ok H ins (byteN code at_) (numN (code.extract at_ (at_ + widN code at_))) (code.extract at_ (at_ + widN code at_)) at_ l h1 h2 (by omega) (by have := numN_lt (code.extract at_ (at_ + widN code at_)); omega)
        split
        · exact ih _ _ _ (by omega) hok.1 hok.2.1
        · rename_i hq
          rcases stepR_codes H ins (byteN code at_) (numN (code.extract at_ (at_ + widN code at_))) (code.extract at_ (at_ + widN code at_)) at_ l with h | h | h | h
          · exact absurd h hq
          all_goals
            rw [h]
            refine ⟨by show n + 1 ≤ 300; omega, Nat.zero_le _, fun _ => rfl, by simp, fun h => by simp at h⟩
theorem runOut_facts (H : ByteArray → ByteArray) (code : ByteArray) (ins : List ByteArray) : RunFacts (runOut H code ins) := by
  unfold runOut
  split
  · exact ⟨Nat.zero_le _, Nat.zero_le _, fun _ => rfl, .inr (.inl rfl), fun h => by simp at h⟩
  · rename_i h
    exact runR_facts H code (by omega) ins 300 0 0 [] rfl (by decide) (by simp)

theorem run_h (code : ByteArray) (hs : code.size ≤ maxLen) (v : Value) (ins : List ByteArray) (w W : World) (hin : StrsAt w v ins) (hT : TabsOK w.heap.size w) (hc : Chg (fun _ => False) w W) :
    Calls Tryd.prog 11 #[.string code, v] W (Rets (.tuple #[.agg #[.int .i64 (runOut hashS code ins).1.1, .string (runOut hashS code ins).1.2], .int .i64 (runOut hashS code ins).2]) (Chg (fun _ => False) W)) :=
  run_any hashS code hs v ins W (hin.chg hc (fun _ _ h => h)) (hT.up hc) (.inr step_h)

set_option maxRecDepth 100000 in
set_option maxHeartbeats 2000000 in
theorem ends_walk (code : ByteArray) (v : Value) (ins : List ByteArray) (w : World) (hin : StrsAt w v ins) (hT : TabsOK w.heap.size w) (c : Nat) (bl : ByteArray) (n : Nat)
    (hr : ∀ W, Chg (fun _ => False) w W → Calls Tryd.prog 11 #[.string code, v] W (Rets (.tuple #[.agg #[.int .i64 c, .string bl], .int .i64 n]) (Chg (fun _ => False) W)))
    (hF : RunFacts ((c, bl), n)) (h40 : ins.length ≤ 40) : Calls Tryd.prog 5 #[.string code, v] w (Rets (.bool true) (Chg (fun _ => False) w)) := by
  have ha := awake_any w hT
  have hlenI := fun W ty => hin.len (P := Tryd.prog) Tryd.underlying22 W ty
  have h40' : (ins.length : Int) ≤ 40 := by omega
  obtain ⟨h1, h2, h3, h4, h5⟩ := hF
  simp only at h1 h2 h3 h4 h5
  have n1 : decide ((300 : Int) < (n : Int)) = false := by simp; omega
  have n2 : decide ((n : Int) < 0) = false := by simp
  have n3 : decide ((512 : Int) < (bl.size : Int)) = false := by simp; omega
  have n4 : (n : Int) ≤ 300 := by omega
  have n5 : (bl.size : Int) ≤ 512 := by omega
  have HR := hid hr
  clear hr hin hT h1 h2
  rcases h4 with rfl | rfl | rfl | rfl | rfl | rfl
  · clear h3 h5
    go_enter Tryd.func5, Tryd.ntmps5
    go_wp2_with (first | (go_at_call 10; refine ha.mono ?_; rintro e w1 ⟨rfl, hch1⟩; have hr1 := HR.out _ hch1; clear ha) | (go_at_call 11; refine hr1.mono ?_; rintro e w2 ⟨rfl, hch2⟩; clear hr1; have hr2 := HR.out _ ((hch1.trans hch2 (fun _ _ h => h)).alloc (.cells #[.int .i64 0, .string bl] 26))) | (go_at_call 11; refine hr2.mono ?_; rintro e w3 ⟨rfl, hch3⟩; clear hr2; have b1 := heap_alloc_old' (hch3.obj (heap_alloc_new w2 _) (fun h => h)) (.cells #[.int .i64 0, .string bl] 26); have b1c0 := cell_of b1 0; have b1c1 := cell_of b1 1))
    go_ret
    exact ⟨rfl, ((hch1.trans hch2 (fun _ _ h => h)).alloc _ |>.trans hch3 (fun _ _ h => h)).alloc _⟩
  · obtain rfl := h3 (by decide)
    clear h3 h5
    go_enter Tryd.func5, Tryd.ntmps5
    go_wp2_with (first | (go_at_call 10; refine ha.mono ?_; rintro e w1 ⟨rfl, hch1⟩; have hr1 := HR.out _ hch1; clear ha) | (go_at_call 11; refine hr1.mono ?_; rintro e w2 ⟨rfl, hch2⟩; clear hr1; have hr2 := HR.out _ ((hch1.trans hch2 (fun _ _ h => h)).alloc (.cells #[.int .i64 4, .string { data := #[] }] 26))) | (go_at_call 11; refine hr2.mono ?_; rintro e w3 ⟨rfl, hch3⟩; clear hr2; have b1 := heap_alloc_old' (hch3.obj (heap_alloc_new w2 _) (fun h => h)) (.cells #[.int .i64 4, .string { data := #[] }] 26); have b1c0 := cell_of b1 0; have b1c1 := cell_of b1 1))
    go_ret
    exact ⟨rfl, ((hch1.trans hch2 (fun _ _ h => h)).alloc _ |>.trans hch3 (fun _ _ h => h)).alloc _⟩
  · obtain rfl := h3 (by decide)
    clear h3 h5
    go_enter Tryd.func5, Tryd.ntmps5
    go_wp2_with (first | (go_at_call 10; refine ha.mono ?_; rintro e w1 ⟨rfl, hch1⟩; have hr1 := HR.out _ hch1; clear ha) | (go_at_call 11; refine hr1.mono ?_; rintro e w2 ⟨rfl, hch2⟩; clear hr1; have hr2 := HR.out _ ((hch1.trans hch2 (fun _ _ h => h)).alloc (.cells #[.int .i64 31, .string { data := #[] }] 26))) | (go_at_call 11; refine hr2.mono ?_; rintro e w3 ⟨rfl, hch3⟩; clear hr2; have b1 := heap_alloc_old' (hch3.obj (heap_alloc_new w2 _) (fun h => h)) (.cells #[.int .i64 31, .string { data := #[] }] 26); have b1c0 := cell_of b1 0; have b1c1 := cell_of b1 1))
    go_ret
    exact ⟨rfl, ((hch1.trans hch2 (fun _ _ h => h)).alloc _ |>.trans hch3 (fun _ _ h => h)).alloc _⟩
  · obtain rfl := h3 (by decide)
    clear h3 h5
    go_enter Tryd.func5, Tryd.ntmps5
    go_wp2_with (first | (go_at_call 10; refine ha.mono ?_; rintro e w1 ⟨rfl, hch1⟩; have hr1 := HR.out _ hch1; clear ha) | (go_at_call 11; refine hr1.mono ?_; rintro e w2 ⟨rfl, hch2⟩; clear hr1; have hr2 := HR.out _ ((hch1.trans hch2 (fun _ _ h => h)).alloc (.cells #[.int .i64 32, .string { data := #[] }] 26))) | (go_at_call 11; refine hr2.mono ?_; rintro e w3 ⟨rfl, hch3⟩; clear hr2; have b1 := heap_alloc_old' (hch3.obj (heap_alloc_new w2 _) (fun h => h)) (.cells #[.int .i64 32, .string { data := #[] }] 26); have b1c0 := cell_of b1 0; have b1c1 := cell_of b1 1))
    go_ret
    exact ⟨rfl, ((hch1.trans hch2 (fun _ _ h => h)).alloc _ |>.trans hch3 (fun _ _ h => h)).alloc _⟩
  · obtain rfl := h3 (by decide)
    obtain rfl := h5 rfl
    clear h3 h5
    go_enter Tryd.func5, Tryd.ntmps5
    go_wp2_with (first | (go_at_call 10; refine ha.mono ?_; rintro e w1 ⟨rfl, hch1⟩; have hr1 := HR.out _ hch1; clear ha) | (go_at_call 11; refine hr1.mono ?_; rintro e w2 ⟨rfl, hch2⟩; clear hr1; have hr2 := HR.out _ ((hch1.trans hch2 (fun _ _ h => h)).alloc (.cells #[.int .i64 30, .string { data := #[] }] 26))) | (go_at_call 11; refine hr2.mono ?_; rintro e w3 ⟨rfl, hch3⟩; clear hr2; have b1 := heap_alloc_old' (hch3.obj (heap_alloc_new w2 _) (fun h => h)) (.cells #[.int .i64 30, .string { data := #[] }] 26); have b1c0 := cell_of b1 0; have b1c1 := cell_of b1 1))
    go_ret
    exact ⟨rfl, ((hch1.trans hch2 (fun _ _ h => h)).alloc _ |>.trans hch3 (fun _ _ h => h)).alloc _⟩
  · obtain rfl := h3 (by decide)
    clear h3 h5
    go_enter Tryd.func5, Tryd.ntmps5
    go_wp2_with (first | (go_at_call 10; refine ha.mono ?_; rintro e w1 ⟨rfl, hch1⟩; have hr1 := HR.out _ hch1; clear ha) | (go_at_call 11; refine hr1.mono ?_; rintro e w2 ⟨rfl, hch2⟩; clear hr1; have hr2 := HR.out _ ((hch1.trans hch2 (fun _ _ h => h)).alloc (.cells #[.int .i64 33, .string { data := #[] }] 26))) | (go_at_call 11; refine hr2.mono ?_; rintro e w3 ⟨rfl, hch3⟩; clear hr2; have b1 := heap_alloc_old' (hch3.obj (heap_alloc_new w2 _) (fun h => h)) (.cells #[.int .i64 33, .string { data := #[] }] 26); have b1c0 := cell_of b1 0; have b1c1 := cell_of b1 1))
    go_ret
    exact ⟨rfl, ((hch1.trans hch2 (fun _ _ h => h)).alloc _ |>.trans hch3 (fun _ _ h => h)).alloc _⟩

theorem millEnds_any (code : ByteArray) (hs : code.size ≤ maxLen) (v : Value) (ins : List ByteArray) (w : World) (hin : StrsAt w v ins) (hT : TabsOK w.heap.size w) : Calls Tryd.prog 5 #[.string code, v] w (Rets (.bool true) (Chg (fun _ => False) w)) := by
  by_cases h40 : ins.length ≤ 40
  · exact ends_walk code v ins w hin hT _ _ _ (fun W hc => run_h code hs v ins w W hin hT hc) (runOut_facts hashS code ins) h40
  · have ha := awake_any w hT
    have hlenI := fun W ty => hin.len (P := Tryd.prog) Tryd.underlying22 W ty
    have h40' : (40 : Int) < (ins.length : Int) := by omega
    clear hin hT
    go_enter Tryd.func5, Tryd.ntmps5
    go_wp2_with (go_at_call 10; refine ha.mono ?_; rintro e w1 ⟨rfl, hch1⟩)
    go_ret
    exact ⟨rfl, hch1⟩
end Go.Proofs.YtegappcdmaodjaaDoor
