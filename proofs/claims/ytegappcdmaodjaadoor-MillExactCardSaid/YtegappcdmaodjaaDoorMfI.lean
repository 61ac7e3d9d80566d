/- The law MillExact walked. -/
import Derived.Test.YtegappcdmaodjaaDoorMfH
import Derived.Test.YtegappcdmaodjaaDoorMiU
namespace Go.Proofs.YtegappcdmaodjaaDoor
open Go.RowKit

theorem rrun_any (code : ByteArray) (hs : code.size ≤ maxLen) (v : Value) (ins : List ByteArray) (w : World) (hin : StrsAt w v ins) :
    Calls Tryd.prog 12 #[.string code, v] w (Rets (.tuple #[.agg #[.int .i64 (runOut hashS code ins).1.1, .string (runOut hashS code ins).1.2], .int .i64 (runOut hashS code ins).2]) (Chg (fun _ => False) w)) := by
  by_cases h1 : 64 < code.size ∨ 4 < ins.length
  · have e : runOut hashS code ins = ((4, .empty), 0) := by unfold runOut; rw [if_pos (h1.elim .inl (fun h => .inr (.inl h)))]
    rw [e]
    exact rrun_long code hs v ins w hin h1
  have h1a : ¬ 64 < code.size := fun h => h1 (.inl h)
  have h1b : ¬ 4 < ins.length := fun h => h1 (.inr h)
  by_cases h2 : ∃ s ∈ ins, 512 < s.size
  · have e : runOut hashS code ins = ((4, .empty), 0) := by unfold runOut; rw [if_pos (.inr (.inr h2))]
    rw [e]
    exact rrun_wide code h1a v ins w hin h1b h2
  · have e : runOut hashS code ins = runR hashS code ins 300 0 0 [] := by
      unfold runOut
      rw [if_neg]
      rintro (h | h | h)
      · exact h1a h
      · exact h1b h
      · exact h2 h
    have hall : ∀ x ∈ ins, x.size ≤ 512 := fun x hx => Nat.le_of_not_lt fun h => h2 ⟨x, hx, h⟩
    rw [e]
    obtain ⟨oa, cap, rfl⟩ : ∃ oa cap, v = .slice oa ins.length cap := by
      rcases hin.1 with ⟨rfl, rfl⟩ | ⟨a, cap, rfl, _⟩
      · exact ⟨none, 0, rfl⟩
      · exact ⟨some a, cap, rfl⟩
    exact rrun_good code h1a oa cap ins w hin h1b hall

set_option maxRecDepth 100000 in
set_option maxHeartbeats 2000000 in
theorem exact_walk (code : ByteArray) (v : Value) (ins : List ByteArray) (w : World) (hin : StrsAt w v ins) (hT : TabsOK w.heap.size w) (c : Nat) (bl : ByteArray) (n : Nat)
    (hr : ∀ W, Chg (fun _ => False) w W → Calls Tryd.prog 11 #[.string code, v] W (Rets (.tuple #[.agg #[.int .i64 c, .string bl], .int .i64 n]) (Chg (fun _ => False) W)))
    (hq : ∀ W, Chg (fun _ => False) w W → Calls Tryd.prog 12 #[.string code, v] W (Rets (.tuple #[.agg #[.int .i64 c, .string bl], .int .i64 n]) (Chg (fun _ => False) W)))
    (h40 : ins.length ≤ 40) : Calls Tryd.prog 3 #[.string code, v] w (Rets (.bool true) (Chg (fun _ => False) w)) := by
  have ha := awake_any w hT
  have hlenI := fun W ty => hin.len (P := Tryd.prog) Tryd.underlying22 W ty
  have h40' : (ins.length : Int) ≤ 40 := by omega
  have HR := hid hr
  have HQ := hid hq
  clear hr hq hin hT
  go_enter Tryd.func3, Tryd.ntmps3
  go_wp2_with (first | (go_at_call 10; refine ha.mono ?_; rintro e w1 ⟨rfl, hch1⟩; have hr1 := HR.out _ hch1; clear ha) | (go_at_call 11; refine hr1.mono ?_; rintro e w2 ⟨rfl, hch2⟩; clear hr1; have hr2 := HQ.out _ ((hch1.trans hch2 (fun _ _ h => h)).alloc (.cells #[.int .i64 c, .string bl] 26))) | (go_at_call 12; refine hr2.mono ?_; rintro e w3 ⟨rfl, hch3⟩; clear hr2; have b1 := heap_alloc_old' (hch3.obj (heap_alloc_new w2 _) (fun h => h)) (.cells #[.int .i64 c, .string bl] 26); have b1c0 := cell_of b1 0; have b1c1 := cell_of b1 1))
  go_ret
  exact ⟨rfl, ((hch1.trans hch2 (fun _ _ h => h)).alloc _ |>.trans hch3 (fun _ _ h => h)).alloc _⟩

theorem millExact_any (code : ByteArray) (hs : code.size ≤ maxLen) (v : Value) (ins : List ByteArray) (w : World) (hin : StrsAt w v ins) (hT : TabsOK w.heap.size w) : Calls Tryd.prog 3 #[.string code, v] w (Rets (.bool true) (Chg (fun _ => False) w)) := by
  by_cases h40 : ins.length ≤ 40
  · exact exact_walk code v ins w hin hT _ _ _ (fun W hc => run_h code hs v ins w W hin hT hc) (fun W hc => rrun_any code hs v ins W (hin.chg hc (fun _ _ h => h))) h40
  · have ha := awake_any w hT
    have hlenI := fun W ty => hin.len (P := Tryd.prog) Tryd.underlying22 W ty
    have h40' : (40 : Int) < (ins.length : Int) := by omega
    clear hin hT
    go_enter Tryd.func3, Tryd.ntmps3
    go_wp2_with (go_at_call 10; refine ha.mono ?_; rintro e w1 ⟨rfl, hch1⟩)
    go_ret
    exact ⟨rfl, hch1⟩
end Go.Proofs.YtegappcdmaodjaaDoor
