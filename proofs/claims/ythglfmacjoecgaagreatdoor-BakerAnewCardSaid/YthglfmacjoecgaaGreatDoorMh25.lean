/- Texts of the proof, one behind the other: mill.Run walked: runR. -/
import Derived.Test.YthglfmacjoecgaaGreatDoorMh11
import Derived.Test.YthglfmacjoecgaaGreatDoorMh24
import Derived.BigQuiet
import Derived.StillTailTactics
namespace Go.Proofs.YthglfmacjoecgaaGreatDoor
open Go.RowKit

def byteN (code : ByteArray) (i : Nat) : UInt8 := if h : i < code.size then code[i] else 0
theorem byteN_eq {code : ByteArray} {i : Nat} (h : i < code.size) : byteN code i = code[i] := dif_pos h
/-- What Run answers from here on. -/
def runR (H : ByteArray → ByteArray) (code : ByteArray) (ins : List ByteArray) : Nat → Nat → Nat → List ByteArray → (Nat × ByteArray) × Nat
  | 0, at_, n, l => if at_ = code.size then (endR l, n) else if code.size < at_ ∨ widN code at_ = 0 then ((32, .empty), n) else ((30, .empty), n)
  | f + 1, at_, n, l => if at_ = code.size then (endR l, n) else if code.size < at_ ∨ widN code at_ = 0 then ((32, .empty), n) else
    let s := code.extract at_ (at_ + widN code at_)
    let q := stepRM H ins (byteN code at_) (numN s) s at_ l
    if q.1 = 0 then runR H code ins f q.2.1 (n + 1) q.2.2 else ((q.1, .empty), n + 1)
def runOut (H : ByteArray → ByteArray) (code : ByteArray) (ins : List ByteArray) : (Nat × ByteArray) × Nat :=
  if 64 < code.size ∨ 4 < ins.length ∨ ∃ s ∈ ins, 512 < s.size then ((4, .empty), 0) else runR H code ins 300 0 0 []

theorem runR_end {H : ByteArray → ByteArray} {code : ByteArray} {ins : List ByteArray} (f n : Nat) {at_ : Nat} {l : List ByteArray} (h : at_ = code.size) : runR H code ins f at_ n l = (endR l, n) := by
  cases f <;> (unfold runR; rw [if_pos h])
theorem runR_op {H : ByteArray → ByteArray} {code : ByteArray} {ins : List ByteArray} (f n : Nat) {at_ : Nat} {l : List ByteArray} (h : at_ ≠ code.size) (h2 : code.size < at_ ∨ widN code at_ = 0) : runR H code ins f at_ n l = ((32, .empty), n) := by
  cases f <;> (unfold runR; rw [if_neg h, if_pos h2])
theorem runR_fuel {H : ByteArray → ByteArray} {code : ByteArray} {ins : List ByteArray} (n : Nat) {at_ : Nat} {l : List ByteArray} (h : at_ ≠ code.size) (h2 : ¬ (code.size < at_ ∨ widN code at_ = 0)) : runR H code ins 0 at_ n l = ((30, .empty), n) := by
  unfold runR; rw [if_neg h, if_neg h2]
theorem runR_step {H : ByteArray → ByteArray} {code : ByteArray} {ins : List ByteArray} (f n : Nat) {at_ : Nat} {l : List ByteArray} (h : at_ ≠ code.size) (h2 : ¬ (code.size < at_ ∨ widN code at_ = 0)) {s : ByteArray} (hs : s = code.extract at_ (at_ + widN code at_)) {q : Nat × Nat × List ByteArray} (hq : q = stepRM H ins (byteN code at_) (numN s) s at_ l) :
    runR H code ins (f + 1) at_ n l = if q.1 = 0 then runR H code ins f q.2.1 (n + 1) q.2.2 else ((q.1, .empty), n + 1) := by
  subst hs hq
  rw [runR, if_neg h, if_neg h2]

theorem pushR_ok (l ss : List ByteArray) (h1 : l.length ≤ 8) (h2 : ∀ x ∈ l, x.size ≤ 512) : (pushR l ss).2.length ≤ 8 ∧ ∀ x ∈ (pushR l ss).2, x.size ≤ 512 := by
  induction ss generalizing l with
  | nil => exact ⟨h1, h2⟩
  | cons s ss ih =>
    rw [pushR_cons]
    split
    · exact ⟨h1, h2⟩
    · split
      · exact ⟨h1, h2⟩
      · refine ih _ (by simp; omega) ?_
        intro x hx
        rcases List.mem_append.1 hx with hx | hx
        · exact h2 x hx
        · simp at hx; subst hx; omega
theorem stepR_ok (H : ByteArray → ByteArray) (ins : List ByteArray) (c : UInt8) (n : Nat) (s : ByteArray) (at_ : Nat) (l : List ByteArray) (h1 : l.length ≤ 8) (h2 : ∀ x ∈ l, x.size ≤ 512) (h3 : at_ + s.size ≤ 1000) (h4 : n ≤ 1000) :
    (stepRM H ins c n s at_ l).2.2.length ≤ 8 ∧ (∀ x ∈ (stepRM H ins c n s at_ l).2.2, x.size ≤ 512) ∧ (stepRM H ins c n s at_ l).2.1 ≤ 1000 := by
  unfold stepRM
  split
  · exact ⟨h1, h2, by show at_ ≤ 1000; omega⟩
  split
  · exact ⟨h1, h2, by show at_ ≤ 1000; omega⟩
  · have := pushR_ok (l.take (l.length - takeN c)) (putsR H ins c n s ((l.drop (l.length - takeN c)).getD 0 .empty) ((l.drop (l.length - takeN c)).getD 1 .empty)) (by simp; omega) (fun x hx => h2 x (List.mem_of_mem_take hx))
    refine ⟨this.1, this.2, ?_⟩
    show goesR c n (at_ + s.size) _ ≤ 1000
    unfold goesR
    split
    · exact h4
    split
    · split <;> assumption
    · exact h3
theorem pushR_code (l ss : List ByteArray) : (pushR l ss).1 ≤ 33 := by
  induction ss generalizing l with
  | nil => exact Nat.zero_le _
  | cons s ss ih => rw [pushR_cons]; split; · exact (by decide : 31 ≤ 33)
                    split; · exact (by decide : 33 ≤ 33)
                    exact ih _
theorem stepR_code (H : ByteArray → ByteArray) (ins : List ByteArray) (c : UInt8) (n : Nat) (s : ByteArray) (at_ : Nat) (l : List ByteArray) : (stepRM H ins c n s at_ l).1 ≤ 33 := by
  unfold stepRM
  split
  · exact (by decide : 32 ≤ 33)
  split
  · exact (by decide : 31 ≤ 33)
  · exact pushR_code _ _

theorem wid_ok {code : ByteArray} {i : Nat} (h : i < code.size) (hz : widN code i ≠ 0) : okL code[i] = true ∧ i + widN code i ≤ code.size ∧ 1 ≤ widN code i ∧ (code[i] = 112 → 2 ≤ widN code i) := by
  have hle := (widN_le code i).resolve_right hz
  refine ⟨?_, hle, by omega, ?_⟩
  · unfold widN at hz
    rw [dif_pos h] at hz
    unfold okL
    have h0 : wid0 code i h ≠ 0 := by intro e; rw [e] at hz; simp at hz
    unfold wid0 at h0
    by_cases e1 : plainB code[i] = true
    · simp [e1]
    · by_cases e2 : numB code[i] = true
      · simp [e2]
      · rw [if_neg e1, if_neg e2] at h0
        by_cases e3 : code[i] = 112
        · simp [e3]
        · rw [dif_neg (fun hh => e3 hh.1)] at h0; exact absurd rfl h0
  · intro e
    unfold widN at hz ⊢
    rw [dif_pos h] at hz ⊢
    split at hz
    · exact absurd rfl hz
    rw [if_neg (by assumption)]
    have p1 : ¬ plainB code[i] = true := by rw [e]; decide +kernel
    have p2 : ¬ numB code[i] = true := by rw [e]; decide +kernel
    unfold wid0 at hz ⊢
    rw [if_neg p1, if_neg p2] at hz ⊢
    split at hz
    · rename_i h5; rw [dif_pos h5]; omega
    · exact absurd rfl hz

/-- The result's block, stored and read. -/
theorem res_stored {W : World} {R : Nat} {a b : Value} (h : W.heap[R]? = some (.cells #[a, b] 47 (0, 0))) (u t : Value) :
    (W.setCell ⟨R, 0, none⟩ u).cell? ⟨R, 0, none⟩ = some u ∧ ((W.setCell ⟨R, 0, none⟩ u).setCell ⟨R, 1, none⟩ t).cell? ⟨R, 1, none⟩ = some t ∧ ((W.setCell ⟨R, 0, none⟩ u).setCell ⟨R, 1, none⟩ t).cell? ⟨R, 0, none⟩ = some u := by
  have y0 := heap_set_same h 0 u
  exact ⟨cell_of y0 0, cell_of (heap_set_same y0 1 t) 1, cell_of (heap_set_same y0 1 t) 0⟩
theorem res_chg {F : Nat → Prop} {w W : World} (h : Chg F w W) (u t : Value) : Chg F w ((W.setCell ⟨w.heap.size, 0, none⟩ u).setCell ⟨w.heap.size, 1, none⟩ t) :=
  (h.setCell (p := ⟨w.heap.size, 0, none⟩) (fun h => absurd h (Nat.lt_irrefl _)) u).setCell (p := ⟨w.heap.size, 1, none⟩) (fun h => absurd h (Nat.lt_irrefl _)) t
theorem own_chg {w W2 W : World} (h : Chg (fun _ => False) w W2) (h2 : Chg (fun k => w.heap.size + 1 ≤ k) W2 W) : Chg (fun _ => False) w W := h.trans h2 (fun i hi h => by omega)

set_option maxRecDepth 100000 in
set_option maxHeartbeats 4000000 in
theorem run_any (H : ByteArray → ByteArray) (code : ByteArray) (hs : code.size ≤ maxLen) (v : Value) (ins : List ByteArray) (w : World) (hin : StrsAt w v ins) (hT : TabsOK w.heap.size w) (hH : (∀ i (h : i < code.size), code[i] ≠ 104) ∨ StepH H) :
    Calls Tryz.prog 25 #[.string code, v] w (Rets (.tuple #[resV (runOut H code ins).1.1 (runOut H code ins).1.2, .int .i64 (runOut H code ins).2]) (Chg (fun _ => False) w)) := by
  unfold maxLen at hs
  obtain ⟨oa, cap, rfl⟩ : ∃ oa cap, v = .slice oa ins.length cap := by
    rcases hin.1 with ⟨rfl, rfl⟩ | ⟨a, cap, rfl, _⟩
    · exact ⟨none, 0, rfl⟩
    · exact ⟨some a, cap, rfl⟩
  have hmx := hin.2.1
  unfold maxLen at hmx
  by_cases hbig : 64 < code.size ∨ 4 < ins.length ∨ ∃ s ∈ ins, 512 < s.size
  · have hout : runOut H code ins = ((4, .empty), 0) := by unfold runOut; rw [if_pos hbig]
    have HQ := hid hout
    clear hout
    by_cases c1 : 64 < code.size
    · have d1 : decide ((64 : Int) < (code.size : Int)) = true := by simp; omega
      have c1' : (64 : Int) < (code.size : Int) := by omega
      clear hin
      go_enter Tryz.func25, Tryz.ntmps25
      go_wp2_with fail
      refine bodyPost_ret (v := .tuple #[resV 4 .empty, .int .i64 0]) (by simp [results, Tryz.results25, go_sem]; rfl) rfl ⟨by rw [HQ.out] <;> rfl, (Chg.refl _ w).alloc _⟩
    · have d1 : decide ((64 : Int) < (code.size : Int)) = false := by simp; omega
      by_cases c2 : 4 < ins.length
      · have d2 : decide ((4 : Int) < (ins.length : Int)) = true := by simp; omega
        clear hin
        go_enter Tryz.func25, Tryz.ntmps25
        go_wp2_with fail
        refine bodyPost_ret (v := .tuple #[resV 4 .empty, .int .i64 0]) (by simp [results, Tryz.results25, go_sem]; rfl) rfl ⟨by rw [HQ.out] <;> rfl, (Chg.refl _ w).alloc _⟩
      · have d2 : decide ((4 : Int) < (ins.length : Int)) = false := by simp; omega
        have h3 : ∃ s ∈ ins, 512 < s.size := (hbig.resolve_left c1).resolve_left c2
        have hin1 := hin.chg ((Chg.refl (fun _ => False) w).alloc (.cells #[.int .i64 0, .string .empty] 47)) (fun _ _ h => h)
        have hcf := cf_any _ ins _ hin1
        rw [decide_eq_true h3] at hcf
        clear hin hin1 hbig h3
        go_enter Tryz.func25, Tryz.ntmps25
        go_wp2_with (go_at_call 57; refine hcf.mono ?_; rintro e w' ⟨rfl, rfl⟩)
        refine bodyPost_ret (v := .tuple #[resV 4 .empty, .int .i64 0]) (by simp [results, Tryz.results25, go_sem]; rfl) rfl ⟨by rw [HQ.out] <;> rfl, (Chg.refl _ w).alloc _⟩
  · have hout : runOut H code ins = runR H code ins 300 0 0 [] := by unfold runOut; rw [if_neg hbig]
    have h1 : ¬ 64 < code.size := fun h => hbig (.inl h)
    have h2 : ¬ 4 < ins.length := fun h => hbig (.inr (.inl h))
    have h3 : ¬ ∃ s ∈ ins, 512 < s.size := fun h => hbig (.inr (.inr h))
    have h1' : (code.size : Int) ≤ 64 := by omega
    have h2' : (ins.length : Int) ≤ 4 := by omega
    have d1 : decide ((64 : Int) < (code.size : Int)) = false := by simp; omega
    have d2 : decide ((4 : Int) < (ins.length : Int)) = false := by simp; omega
    have hcf : ∀ w1, StrsAt w1 (.slice oa ins.length cap) ins → Calls Tryz.prog 57 #[.slice oa ins.length cap, .func (.func 58) #[] #[]] w1 (Rets (.bool false) (fun w' => w1 = w')) := fun w1 hh => by
      have := cf_any _ ins w1 hh
      rw [decide_eq_false h3] at this
      exact this
    have hin1 := hin.chg ((Chg.refl (fun _ => False) w).alloc (.cells #[.int .i64 0, .string .empty] 47)) (fun _ _ h => h)
    have HOUT := hid hout
    have HIN := hid hin
    clear hbig hin hout
    go_enter Tryz.func25, Tryz.ntmps25
    go_wp2_with (go_at_call 57; refine (hcf _ hin1).mono ?_; rintro e w' ⟨rfl, rfl⟩)
    have hM0 : MachV (w.heap.size + 1) ((w.alloc (.cells #[.int .i64 0, .string .empty] 47)).alloc (.cells #[.slice none 0 0, .string code, .slice oa ins.length cap, .int .i64 0] 121)) (w.heap.size + 1) (.slice none 0 0) code (.slice oa ins.length cap) 0 [] := by
      refine ⟨⟨?_, rfl, World.ownsRow_nil _ _ _ _, by simp [Value.ownBlock]⟩, Nat.le_refl _, by simp [Value.ownBlock]⟩
      have := heap_alloc_new (w.alloc (.cells #[.int .i64 0, .string .empty] 47)) (.cells #[.slice none 0 0, .string code, .slice oa ins.length cap, .int .i64 0] 121)
      unfold machCells
      simpa using this
    have hW2 : Chg (fun _ => False) w ((w.alloc (.cells #[.int .i64 0, .string .empty] 47)).alloc (.cells #[.slice none 0 0, .string code, .slice oa ins.length cap, .int .i64 0] 121)) := ((Chg.refl _ w).alloc _).alloc _
    have hR0 : ((w.alloc (.cells #[.int .i64 0, .string .empty] 47)).alloc (.cells #[.slice none 0 0, .string code, .slice oa ins.length cap, .int .i64 0] 121)).heap[w.heap.size]? = some (.cells #[.int .i64 0, .string .empty] 47 (0, 0)) := heap_alloc_old' (heap_alloc_new _ _) _
    have hS0 : w.heap.size + 1 ≤ ((w.alloc (.cells #[.int .i64 0, .string .empty] 47)).alloc (.cells #[.slice none 0 0, .string code, .slice oa ins.length cap, .int .i64 0] 121)).heap.size := by simp
    generalize hW2e : ((w.alloc (.cells #[.int .i64 0, .string .empty] 47)).alloc (.cells #[.slice none 0 0, .string code, .slice oa ins.length cap, .int .i64 0] 121)) = W2 at hM0 hW2 hR0 hS0 ⊢
    clear hW2e hin1
    go_loopw [7] (fun nv wr => ∃ n at_ l v, n ≤ 300 ∧ nv = .int .i64 (n : Nat) ∧ MachV (w.heap.size + 1) wr (w.heap.size + 1) v code (.slice oa ins.length cap) at_ l ∧ l.length ≤ 8 ∧ (∀ x ∈ l, x.size ≤ 512) ∧ at_ ≤ 1000 ∧ runOut H code ins = runR H code ins (300 - n) at_ n l ∧ Chg (fun k => w.heap.size + 1 ≤ k) W2 wr) (fun nv _ => 301 - (intOf nv).toNat)
    case atStart => exact ⟨0, 0, [], _, by decide, rfl, hM0, by decide, by simp, by decide, HOUT.out, Chg.refl _ _⟩
    case round =>
      obtain ⟨n, at_, l, v, hn, rfl, hM, hl, hall, hat, hrun, hch⟩ := hrel
      have c3 := hM.cell3
      have f3 := frozen_of hM.st.heap 3
      have hB : w.heap.size + 1 ≤ wr.heap.size := Nat.le_trans hS0 hch.size
      have hR := hch.obj hR0 (by omega)
      have r0 := cell_of hR 0
      have r1 := cell_of hR 1
      have g0 := frozen_of hR 0
      have g1 := frozen_of hR 1
      simp at r0 r1
      have HC := hid hch
      have HM := hid hM
      have HR := hid hrun
      have HRB := hid hR
      have HAL := hid hall
      clear hch hM hrun hR hall hM0 hR0
      by_cases he : at_ = code.size
      · have he' : ((at_ : Int) == (code.size : Int)) = true := by simp [he]
        have hend := end_any HM.out hB hl
        unfold resV at hend
        have HQ := hid (show runOut H code ins = (endR l, n) from HR.out.trans (runR_end _ _ he))
        clear HR HOUT
        go_wp2_with (go_at_call 59; refine hend.mono ?_; rintro e w1 ⟨rfl, hch1⟩; have hR1 := hch1.obj HRB.out (by omega); have r0' := cell_of hR1 0; have r1' := cell_of hR1 1; have g0' := frozen_of hR1 0; have g1' := frozen_of hR1 1)
        have XS := res_stored hR1 (.int .i64 (endR l).1) (.string (endR l).2)
        refine bodyPost_ret (v := .tuple #[resV (endR l).1 (endR l).2, .int .i64 n]) (by simp [results, Tryz.results25, go_sem, XS.1, XS.2.1]; rfl) rfl ⟨by rw [HQ.out] <;> rfl, res_chg (own_chg hW2 (HC.out.trans hch1 (fun _ _ h => h))) _ _⟩
      · have he' : ((at_ : Int) == (code.size : Int)) = false := by simp; omega
        by_cases ho : code.size < at_
        · have ho' : (code.size : Int) < (at_ : Int) := by omega
          have XS := hid (res_stored HRB.out (.int .i64 32) (.string { data := #[] }))
          have HQ := hid (show runOut H code ins = ((32, .empty), n) from HR.out.trans (runR_op _ _ he (.inl ho)))
          clear HR HOUT
          go_wp2_with fail
          refine bodyPost_ret (v := .tuple #[resV 32 .empty, .int .i64 n]) (by simp [results, Tryz.results25, go_sem, XS.out.1, XS.out.2.1]; rfl) rfl ⟨by rw [HQ.out] <;> rfl, res_chg (own_chg hW2 HC.out) _ _⟩
        · have ho' : ¬ (code.size : Int) < (at_ : Int) := by omega
          have hlt : at_ < code.size := by omega
          have hwa : ∀ w : World, Calls Tryz.prog 60 #[.string code, .int .i64 at_] w (Rets (.int .i64 (widN code at_)) (fun w' => w = w')) := fun w =>
            width_any code at_ w hlt (by unfold maxLen; omega)
          by_cases hz : widN code at_ = 0
          · have hz' : ((widN code at_ : Int) == 0) = true := by simp [hz]
            have HQ := hid (show runOut H code ins = ((32, .empty), n) from HR.out.trans (runR_op _ _ he (.inr hz)))
            clear HR HOUT
            go_wp2_with (go_at_call 60; refine (hwa _).mono ?_; rintro e w' ⟨rfl, rfl⟩)
            refine bodyPost_ret (v := .tuple #[resV 32 .empty, .int .i64 n]) (by simp [results, Tryz.results25, go_sem, (res_stored HRB.out (.int .i64 32) (.string { data := #[] })).1, (res_stored HRB.out (.int .i64 32) (.string { data := #[] })).2.1]; rfl) rfl ⟨by rw [HQ.out] <;> rfl, res_chg (own_chg hW2 HC.out) _ _⟩
          · have hz' : ((widN code at_ : Int) == 0) = false := by simp [hz]
            by_cases hf : n = 300
            · subst hf
              have HQ := hid (show runOut H code ins = ((30, .empty), 300) from HR.out.trans (runR_fuel _ he (fun h => h.elim (fun h => ho h) (fun h => hz h))))
              clear HR HOUT
              go_wp2_with (go_at_call 60; refine (hwa _).mono ?_; rintro e w' ⟨rfl, rfl⟩)
              refine bodyPost_ret (v := .tuple #[resV 30 .empty, .int .i64 300]) (by simp [results, Tryz.results25, go_sem, (res_stored HRB.out (.int .i64 30) (.string { data := #[] })).1, (res_stored HRB.out (.int .i64 30) (.string { data := #[] })).2.1]; rfl) rfl ⟨by rw [HQ.out] <;> rfl, res_chg (own_chg hW2 HC.out) _ _⟩
            · have hf' : ((n : Int) == 300) = false := by simp; omega
              obtain ⟨k1, k2, k3, k4⟩ := wid_ok hlt hz
              have hle' : (at_ : Int) + (widN code at_ : Int) ≤ (code.size : Int) := by omega
              have hle2 : (at_ : Int) ≤ (at_ : Int) + (widN code at_ : Int) := by omega
              have hle3 : (0 : Int) ≤ (at_ : Int) + (widN code at_ : Int) := by omega
              have hwr : IntKind.i64.wrap ((at_ : Int) + (widN code at_ : Int)) = (at_ : Int) + (widN code at_ : Int) := IntWalk.i64_in _ (by omega)
              have hle4 : ((at_ : Int) + (widN code at_ : Int)).toNat = at_ + widN code at_ := by omega
              have hss : (code.extract at_ (at_ + widN code at_)).size = widN code at_ := by simp; omega
              have hs0 : (code.extract at_ (at_ + widN code at_))[0]'(by omega) = code[at_] := by simp [ByteArray.getElem_extract]
              have hTB : TabsOK (w.heap.size + 1) wr.drew := by
                have h1 : TabsOK (w.heap.size + 1) w := ⟨hT.pow, hT.wds, Nat.lt_succ_of_lt hT.gp, Nat.lt_succ_of_lt hT.gw⟩
                exact h1.chg (((hW2.mono (fun _ _ h => h.elim)).trans HC.out (fun _ _ h => h)).drew)
              have hHs : (code.extract at_ (at_ + widN code at_))[0]'(by omega) = 104 → StepH H := by
                intro e
                rw [hs0] at e
                exact hH.resolve_left (fun hn => hn at_ hlt e)
              have hstep := step_any H HM.out.drew hB hl HAL.out hat (code.extract at_ (at_ + widN code at_)) (by omega) (by omega) (by rw [hs0]; exact k1) (by rw [hs0, hss]; exact k4) (HIN.out) (by omega) ((hW2.mono (fun _ _ h => h.elim)).trans HC.out (fun _ _ h => h)).drew hTB hHs
              have hQ := runR_step (H := H) (ins := ins) (l := l) (300 - (n + 1)) n he (fun h => h.elim (fun h => ho h) (fun h => hz h)) rfl rfl
              rw [show (300 - (n + 1)) + 1 = 300 - n by omega] at hQ
              have hok := stepR_ok H ins code[at_] (numN (code.extract at_ (at_ + widN code at_))) (code.extract at_ (at_ + widN code at_)) at_ l hl HAL.out (by rw [hss]; omega) (by have := numN_lt (code.extract at_ (at_ + widN code at_)); omega)
              have hcd := stepR_code H ins code[at_] (numN (code.extract at_ (at_ + widN code at_))) (code.extract at_ (at_ + widN code at_)) at_ l
              rw [byteN_eq hlt] at hQ
              rw [hs0] at hstep
              generalize stepRM H ins code[at_] (numN (code.extract at_ (at_ + widN code at_))) (code.extract at_ (at_ + widN code at_)) at_ l = q at hQ hok hcd hstep
              have HQ := hid (HR.out.trans hQ)
              have HK := hid hok
              clear HR HOUT hok hQ
              by_cases hq : q.1 = 0
              · have hq' : ((q.1 : Int) == 0) = true := by simp [hq]
                go_wp2_with (go_at_call 60; refine (hwa _).mono ?_; rintro e w' ⟨rfl, rfl⟩)
                refine wp_region_still_tail 18 (by kernel_rfl) (by kernel_rfl) ?_
                simp only [List.take_succ_cons, List.take_zero, List.drop_succ_cons, List.drop_zero]
                repeat still_step
                still_call ((hwa _).mono fun e w' ⟨he, hw⟩ => ⟨he, hw.symm⟩)
                repeat still_step
                refine wpStill_nil ?_
                change wpList _ _ _ _ _ wr.drew
                go_wp2_with (go_at_call 61; refine (hstep).mono ?_; rintro e w1 ⟨rfl, hch1, v1, hM1⟩)
                all_goals go_roundw
                case rel =>
                  refine ⟨n + 1, q.2.1, q.2.2, v1, by omega, by go_num, hM1, HK.out.1, HK.out.2.1, HK.out.2.2, ?_, HC.out.drew.trans hch1 (fun _ _ h => h)⟩
                  rw [HQ.out, if_pos hq]
                case measure => simp [intOf]; omega
              · have hq' : ((q.1 : Int) == 0) = false := by simp; omega
                go_wp2_with (go_at_call 60; refine (hwa _).mono ?_; rintro e w' ⟨rfl, rfl⟩)
                refine wp_region_still_tail 18 (by kernel_rfl) (by kernel_rfl) ?_
                simp only [List.take_succ_cons, List.take_zero, List.drop_succ_cons, List.drop_zero]
                repeat still_step
                still_call ((hwa _).mono fun e w' ⟨he, hw⟩ => ⟨he, hw.symm⟩)
                repeat still_step
                refine wpStill_nil ?_
                change wpList _ _ _ _ _ wr.drew
                go_wp2_with (go_at_call 61; refine (hstep).mono ?_; rintro e w1 ⟨rfl, hch1, v1, hM1⟩; have hR1 := hch1.obj HRB.out (by omega); have r0' := cell_of hR1 0; have r1' := cell_of hR1 1; have g0' := frozen_of hR1 0; have g1' := frozen_of hR1 1)
                have XS := hid (res_stored hR1 (.int .i64 q.1) (.string { data := #[] }))
                refine bodyPost_ret (v := .tuple #[resV q.1 .empty, .int .i64 (n + 1 : Nat)]) (by simp [results, Tryz.results25, go_sem, XS.out.1, XS.out.2.1]; rfl) rfl ⟨by rw [HQ.out, if_neg hq] <;> rfl, res_chg (own_chg hW2 (HC.out.drew.trans hch1 (fun _ _ h => h))) _ _⟩
end Go.Proofs.YthglfmacjoecgaaGreatDoor
