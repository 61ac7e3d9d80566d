/- BeeNil: the calls at nil; Open where the numbers can't be. -/
import Derived.Test.YtijiggolphppbaaGreatDoorKX
namespace Go.Proofs.YtijiggolphppbaaGreatDoor
open Go.RowKit Go.Proofs.YtijiggolphppbaaGreatDoor.Ev
abbrev RB (v : Value) (w : World) : Ending → World → Prop := Rets v (Chg (fun _ => False) w)
theorem nil_build (a b d : Value) (ha : a.oneCell = true) (hb : b.oneCell = true) (hd : d.oneCell = true) (w : World) (hJ : Words w) : Calls Tryz.prog 6 #[.pointer none, .agg #[a, b], d] w (RB (.int .i64 2) w) :=
  (runV_calls run_build (enters_of Tryz.func6 (by kernel_rfl) rfl) w hJ (fun i => match i with | 0 => a | 1 => b | _ => d) (.cons .ptr0 (.cons (.agg (.cons (.x 0 ha) (.cons (.x 1 hb) .nil))) (.cons (.x 2 hd) .nil)))).mono (by
    rintro e w' ⟨v', c', rfl, hv, hc⟩; cases hv; exact ⟨rfl, hc⟩)
theorem nil_tick (w : World) (hJ : Words w) : Calls Tryz.prog 7 #[.pointer none, .int .i64 0] w (RB (.int .i64 2) w) :=
  (runV_calls run_tick (enters_of Tryz.func7 (by kernel_rfl) rfl) w hJ (fun _ => .bool false) (.cons .ptr0 (.cons (.int _ _) .nil))).mono (by
    rintro e w' ⟨v', c', rfl, hv, hc⟩; cases hv; exact ⟨rfl, hc⟩)
theorem nil_hear (w : World) (hJ : Words w) : Calls Tryz.prog 8 #[.pointer none, .string ⟨#[]⟩] w (RB (.int .i64 2) w) :=
  (runV_calls run_hear (enters_of Tryz.func8 (by kernel_rfl) rfl) w hJ (fun _ => .bool false) (.cons .ptr0 (.cons (.str [] (fun b hb => by cases hb)) .nil))).mono (by
    rintro e w' ⟨v', c', rfl, hv, hc⟩; cases hv; exact ⟨rfl, hc⟩)
theorem nil_leave (w : World) (hJ : Words w) : Calls Tryz.prog 9 #[.pointer none] w (RB (.int .i64 2) w) :=
  (runV_calls run_leave (enters_of Tryz.func9 (by kernel_rfl) rfl) w hJ (fun _ => .bool false) (.cons .ptr0 .nil)).mono (by
    rintro e w' ⟨v', c', rfl, hv, hc⟩; cases hv; exact ⟨rfl, hc⟩)
theorem nil_out (w : World) (hJ : Words w) : Calls Tryz.prog 10 #[.pointer none] w (RB (.slice none 0 0) w) :=
  (runV_calls run_out (enters_of Tryz.func10 (by kernel_rfl) rfl) w hJ (fun _ => .bool false) (.cons .ptr0 .nil)).mono (by
    rintro e w' ⟨v', c', rfl, hv, hc⟩; cases hv; exact ⟨rfl, hc⟩)
theorem nil_state (w : World) (hJ : Words w) : Calls Tryz.prog 11 #[.pointer none] w (RB (.int .i64 0) w) :=
  (runV_calls run_state (enters_of Tryz.func11 (by kernel_rfl) rfl) w hJ (fun _ => .bool false) (.cons .ptr0 .nil)).mono (by
    rintro e w' ⟨v', c', rfl, hv, hc⟩; cases hv; exact ⟨rfl, hc⟩)
theorem nil_results (w : World) (hJ : Words w) : Calls Tryz.prog 12 #[.pointer none] w (RB (.slice none 0 0) w) :=
  (runV_calls run_results (enters_of Tryz.func12 (by kernel_rfl) rfl) w hJ (fun _ => .bool false) (.cons .ptr0 .nil)).mono (by
    rintro e w' ⟨v', c', rfl, hv, hc⟩; cases hv; exact ⟨rfl, hc⟩)
theorem nil_ran (w : World) (hJ : Words w) : Calls Tryz.prog 13 #[.pointer none] w (RB (.slice none 0 0) w) :=
  (runV_calls run_ran (enters_of Tryz.func13 (by kernel_rfl) rfl) w hJ (fun _ => .bool false) (.cons .ptr0 .nil)).mono (by
    rintro e w' ⟨v', c', rfl, hv, hc⟩; cases hv; exact ⟨rfl, hc⟩)
theorem nil_got (w : World) (hJ : Words w) : Calls Tryz.prog 14 #[.pointer none] w (RB (.slice none 0 0) w) :=
  (runV_calls run_got (enters_of Tryz.func14 (by kernel_rfl) rfl) w hJ (fun _ => .bool false) (.cons .ptr0 .nil)).mono (by
    rintro e w' ⟨v', c', rfl, hv, hc⟩; cases hv; exact ⟨rfl, hc⟩)
theorem nil_members (w : World) (hJ : Words w) : Calls Tryz.prog 15 #[.pointer none] w (RB (.slice none 0 0) w) :=
  (runV_calls run_members (enters_of Tryz.func15 (by kernel_rfl) rfl) w hJ (fun _ => .bool false) (.cons .ptr0 .nil)).mono (by
    rintro e w' ⟨v', c', rfl, hv, hc⟩; cases hv; exact ⟨rfl, hc⟩)
theorem nil_store (w : World) (hJ : Words w) : Calls Tryz.prog 16 #[.pointer none] w (RB (.pointer none) w) :=
  (runV_calls run_store (enters_of Tryz.func16 (by kernel_rfl) rfl) w hJ (fun _ => .bool false) (.cons .ptr0 .nil)).mono (by
    rintro e w' ⟨v', c', rfl, hv, hc⟩; cases hv; exact ⟨rfl, hc⟩)
theorem nil_open (w : World) (hJ : Words w) : Calls Tryz.prog 18 #[.pointer none, .int .i64 1, .agg #[.int .i64 1, .int .i64 0, .bool false]] w (RB (.tuple #[.pointer none, .int .i64 2]) w) :=
  (runV_calls run_open (enters_of Tryz.func18 (by kernel_rfl) rfl) w hJ (fun _ => .bool false) (.cons .ptr0 (.cons (.int _ _) (.cons (.agg (.cons (.int _ _) (.cons (.int _ _) (.cons (.bool _) .nil)))) .nil)))).mono (by
    rintro e w' ⟨v', c', rfl, hv, hc⟩
    cases hv with
    | tup h =>
      obtain ⟨a, b, rfl, ha, hb⟩ := VRs.inv2 h
      cases ha
      cases hb
      exact ⟨rfl, hc⟩)
noncomputable def newB : Bool := match call g 20000 17 [.int .i64 8] ⟨.leaf, 7⟩ with
  | some (.ptr (some (_, 0)), _) => true
  | _ => false
set_option maxRecDepth 1000000 in
theorem new_run : newB = true := by kernel_rfl
theorem new_shelf (w : World) (hJ : Words w) : Calls Tryz.prog 17 #[.int .i64 8] w fun e w' => ∃ b, e = .returned (.pointer (some b)) ∧ Chg (fun _ => False) w w' := by
  have h := new_run
  unfold newB at h
  split at h
  · rename_i k σ2 hc
    have hr : runV 20000 17 [.int .i64 8] (.ptr (some (k, 0))) = true := by
      unfold runV
      rw [hc]
      simp [eqA]
    refine (runV_calls hr (enters_of Tryz.func17 (by kernel_rfl) rfl) w hJ (fun _ => .bool false) (.cons (.int _ _) .nil)).mono ?_
    rintro e w' ⟨v', c', rfl, hv, hc⟩
    cases hv
    exact ⟨_, rfl, hc⟩
  · cases h
def canB (me nodes : Int) : Prop := 1 ≤ nodes ∧ nodes ≤ 6 ∧ 1 ≤ me ∧ me ≤ nodes
set_option maxRecDepth 100000 in
theorem scout_new (me nodes : Int) (h : ¬ canB me nodes) (w : World) : Calls Tryz.prog 43 #[.int .i64 me, .int .i64 nodes] w (RB (.pointer none) w) := by
  unfold canB at h
  by_cases h1 : nodes < 1
  · have d1 : decide (nodes < 1) = true := decide_eq_true h1
    go_enter Tryz.func43, Tryz.ntmps43
    go_wp2_with fail
    go_ret
    exact ⟨rfl, Chg.refl _ _⟩
  have d1 : decide (nodes < 1) = false := decide_eq_false h1
  by_cases h2 : (6 : Int) < nodes
  · have d2 : decide ((6 : Int) < nodes) = true := decide_eq_true h2
    go_enter Tryz.func43, Tryz.ntmps43
    go_wp2_with fail
    go_ret
    exact ⟨rfl, Chg.refl _ _⟩
  have d2 : decide ((6 : Int) < nodes) = false := decide_eq_false h2
  by_cases h3 : me < 1
  · have d3 : decide (me < 1) = true := decide_eq_true h3
    go_enter Tryz.func43, Tryz.ntmps43
    go_wp2_with fail
    go_ret
    exact ⟨rfl, Chg.refl _ _⟩
  have d3 : decide (me < 1) = false := decide_eq_false h3
  by_cases h4 : nodes < me
  · have d4 : decide (nodes < me) = true := decide_eq_true h4
    go_enter Tryz.func43, Tryz.ntmps43
    go_wp2_with fail
    go_ret
    exact ⟨rfl, Chg.refl _ _⟩
  omega
set_option maxRecDepth 100000 in
theorem open_bad (me nodes : Int) (h : ¬ canB me nodes) (b : Addr) (w : World) : Calls Tryz.prog 18 #[.pointer (some b), .int .i64 me, .agg #[.int .i64 nodes, .int .i64 0, .bool false]] w (RB (.tuple #[.pointer none, .int .i64 1]) w) := by
  have hS := fun w => scout_new me nodes h w
  have hC1 : Chg (fun _ => False) w (w.alloc (.cells #[.int .i64 nodes, .int .i64 0, .bool false] 53)) := (Chg.refl _ w).alloc _
  have HC := hid hC1
  clear hC1
  go_enter Tryz.func18, Tryz.ntmps18
  go_wp2_with (go_at_call 43; refine (hS _).mono ?_; rintro e w' ⟨rfl, hc⟩; have HC2 := hid (HC.out.trans hc (fun _ _ h => h)); clear hc)
  go_ret2
  exact ⟨rfl, HC2.out⟩
end Go.Proofs.YtijiggolphppbaaGreatDoor
