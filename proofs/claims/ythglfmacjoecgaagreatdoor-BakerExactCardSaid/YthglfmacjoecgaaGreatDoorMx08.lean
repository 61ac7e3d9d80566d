/- Texts of the proof, one behind the other: apiaryref06.step, all letters joined: what a step leaves is stepRM; mill.Steps walked: stepsG; apiaryref06.width, Steps, apiaryref01.Same walked; mill.isWide asked of inputs; (*machine).end; mill.Run walked: runR; apiaryref06.Run walked: runR; The law MillExact walked; oven.Make walked; What a build with sources is: whether it can be made; how wide what it makes is; its keys. No program in sight; What '==' says of digests, results and records; What comes in: sources, results, digests, records. -/
import Derived.Test.YthglfmacjoecgaaGreatDoorMx07
import Derived.Test.YthglfmacjoecgaaGreatDoorMx02
import Derived.Test.YthglfmacjoecgaaGreatDoorMx03
import Derived.BigQuiet
import Derived.Test.YthglfmacjoecgaaGreatDoorMx01
import Derived.StillTailTactics
import Derived.DeepKeys
namespace Go.Proofs.YthglfmacjoecgaaGreatDoor
open Go.RowKit

end Go.Proofs.YthglfmacjoecgaaGreatDoor
namespace Go.Proofs.YthglfmacjoecgaaGreatDoor
open Go.RowKit

theorem widN_le (code : ByteArray) (i : Nat) : i + widN code i ≤ code.size ∨ widN code i = 0 := by
  unfold widN
  split
  · split <;> omega
  · omega
end Go.Proofs.YthglfmacjoecgaaGreatDoor
namespace Go.Proofs.YthglfmacjoecgaaGreatDoor
open Go.RowKit

end Go.Proofs.YthglfmacjoecgaaGreatDoor
namespace Go.Proofs.YthglfmacjoecgaaGreatDoor
open Go.RowKit

theorem isWide_any (s : ByteArray) (hs : s.size ≤ maxLen) (w : World) : Calls Tryz.prog 58 #[.string s] w (Rets (.bool (decide (512 < s.size))) (fun w' => w = w')) := by
  unfold maxLen at hs
  by_cases h : 512 < s.size
  · have h' : (512 : Int) < s.size := by omega
    go_enter Tryz.func58, Tryz.ntmps58
    go_wp2
    go_ret
    exact ⟨by simp [h], rfl⟩
  · have h' : ¬ (512 : Int) < s.size := by omega
    go_enter Tryz.func58, Tryz.ntmps58
    go_wp2
    go_ret
    exact ⟨by simp, rfl⟩

set_option maxHeartbeats 1000000 in
theorem ixf_any (v : Value) (ss : List ByteArray) (w : World) (hin : StrsAt w v ss) :
    Calls Tryz.prog 92 #[v, .func (.func 58) #[] #[]] w (fun e w' => ∃ r : Int, e = .returned (.int .i64 r) ∧ (0 ≤ r ↔ ∃ s ∈ ss, 512 < s.size) ∧ w = w') := by
  have hlenI := fun W ty => hin.len (P := Tryz.prog) Tryz.underlying22 W ty
  have hmx := hin.2.1
  unfold maxLen at hmx
  have H := hid hin
  clear hin
  go_enter Tryz.func92, Tryz.ntmps92
  go_wp2_with fail
  go_loop [8] (fun i => ∃ k : Nat, k ≤ ss.length ∧ i = .int .i64 k ∧ ∀ j (h : j < ss.length), j < k → ss[j].size ≤ 512) (fun i => ss.length - (intOf i).toNat)
  case atStart => exact ⟨0, Nat.zero_le _, rfl, fun j _ h => absurd h (Nat.not_lt_zero _)⟩
  case round =>
    obtain ⟨k, hk, rfl, hall⟩ := hrel
    have HA := hid hall
    clear hall
    by_cases hkn : k < ss.length
    · have hkn' : (k : Int) < ss.length := by omega
      obtain ⟨ad, hix, hadc, hadb⟩ := H.out.ix (P := Tryz.prog) Tryz.underlying22 Tryz.sizeOf9 k hkn
      have hsk := H.out.2.2 _ (List.getElem_mem hkn)
      by_cases hw : 512 < ss[k].size
      · go_wp2_with (go_at_call 58; refine (isWide_any _ hsk _).mono ?_; rintro e w' ⟨rfl, rfl⟩)
        go_ret
        exact ⟨k, rfl, ⟨fun _ => ⟨_, List.getElem_mem hkn, hw⟩, fun _ => by omega⟩, rfl⟩
      · go_wp2_with (go_at_call 58; refine (isWide_any _ hsk _).mono ?_; rintro e w' ⟨rfl, rfl⟩)
        go_round
        case rel =>
          refine ⟨k + 1, by omega, by go_num, fun j hj hjk => ?_⟩
          by_cases e : j = k
          · subst e; omega
          · exact HA.out j hj (by omega)
        case measure => simp [intOf]; omega
    · obtain rfl : k = ss.length := by omega
      go_wp2_with fail
      go_ret
      refine ⟨_, rfl, ⟨fun h => absurd h (by decide), ?_⟩, rfl⟩
      rintro ⟨s, hs, hw⟩
      obtain ⟨j, hj, rfl⟩ := List.mem_iff_getElem.1 hs
      have := HA.out j hj hj
      omega

theorem cf_any (v : Value) (ss : List ByteArray) (w : World) (hin : StrsAt w v ss) :
    Calls Tryz.prog 57 #[v, .func (.func 58) #[] #[]] w (Rets (.bool (decide (∃ s ∈ ss, 512 < s.size))) (fun w' => w = w')) := by
  have hix := ixf_any v ss w hin
  clear hin
  go_enter Tryz.func57, Tryz.ntmps57
  go_wp2_with (go_at_call 92; refine hix.mono ?_; rintro e w' ⟨r, rfl, hr, rfl⟩)
  go_ret
  exact ⟨rfl, rfl⟩

/-- What (*machine).end answers. -/
def endR (l : List ByteArray) : Nat × ByteArray := match l.getLast? with | none => (31, .empty) | some b => (0, b)
def resV (c : Nat) (b : ByteArray) : Value := .agg #[.int .i64 c, .string b]

set_option maxRecDepth 100000 in
set_option maxHeartbeats 1000000 in
theorem end_any {B : Nat} {w : World} {b : Nat} {v : Value} {code : ByteArray} {inV : Value} {at_ : Nat} {l : List ByteArray} (h : MachV B w b v code inV at_ l) (hB : B ≤ w.heap.size) (hl : l.length ≤ 8) :
    Calls Tryz.prog 59 #[.pointer (some ⟨b, 0, none⟩)] w (Rets (resV (endR l).1 (endR l).2) (Chg (fun k => B ≤ k) w)) := by
  rcases List.eq_nil_or_concat l with rfl | ⟨r, p0, rfl⟩
  · have hpop := pop_less _ b v _ _ [] (h.alloc (.cells #[.int .i64 0, .string .empty] 47)).st 1 (by decide) (by decide)
    go_enter Tryz.func59, Tryz.ntmps59
    go_wp2_with (go_at_call 93; refine hpop.mono ?_; rintro e w1 ⟨rfl, rfl⟩)
    refine bodyPost_ret (v := resV 31 .empty) (by simp [results, Tryz.results59, go_sem]; rfl) rfl ⟨rfl, (Chg.refl _ w).alloc _⟩
  · have h' := h
    rw [List.concat_eq_append] at h' hl ⊢
    have hr : r.length ≤ 8 := by simp at hl; omega
    have hlt := h'.lt
    have hol := h'.own_lt
    have hpop := pop_ok _ b v _ _ _ (h'.alloc (.cells #[.int .i64 0, .string .empty] 47)).st 1 (by simp) (by decide) (by simp; omega)
    have e1 : (r ++ [p0]).length - 1 = r.length := by simp
    rw [e1, List.drop_left] at hpop
    have heR : endR (r ++ [p0]) = (0, p0) := by simp [endR]
    rw [heR]
    have hpop2 : Calls Tryz.prog 93 #[.pointer (some ⟨b, 0, none⟩), .int .i64 1] (w.alloc (.cells #[.int .i64 0, .string .empty] 47)) (fun e w1 => ∃ g cap, e = .returned (.tuple #[.slice (some ⟨g, 0, none⟩) 1 cap, .bool true]) ∧
        w1.cell? ⟨g, 0, none⟩ = some (.string p0) ∧ w1.heap[w.heap.size]? = some (.cells #[.int .i64 0, .string .empty] 47 (0, 0)) ∧ w.heap.size < g ∧ Chg (fun k => B ≤ k) w w1) := by
      refine hpop.mono ?_
      rintro e w1 ⟨lv, rfl, ⟨v1, hS1, hv1, hch1⟩, hlv⟩
      obtain ⟨g, cap, rfl, hcap, hgl⟩ := owns_some hlv (by decide)
      have hgw := (World.ownsRow.lt hlv g rfl).1
      refine ⟨g, cap, rfl, hlv.cellAt 0 (by decide), hch1.obj (heap_alloc_new w (.cells #[.int .i64 0, .string .empty] 47)) ?_, Nat.lt_of_succ_le (by rw [show (w.alloc (.cells #[.int .i64 0, .string .empty] 47)).heap.size = w.heap.size + 1 from by simp] at hgw; exact hgw), ?_⟩
      · rintro (e | e)
        · omega
        · have := hol _ e; omega
      · refine ((Chg.refl _ w).alloc _).trans hch1 ?_
        rintro i hi (rfl | e)
        · exact h'.hb
        · exact h'.hv i e
    clear hpop
    go_enter Tryz.func59, Tryz.ntmps59
    go_wp2_with (go_at_call 93; refine hpop2.mono ?_; rintro e w1 ⟨g, cap, rfl, e0, k1, hgw, hch⟩; have c0 := cell_of k1 0; have c1 := cell_of k1 1; have f0 := frozen_of k1 0; have f1 := frozen_of k1 1)
    have y0 := heap_set_same k1 0 (.int .i64 0)
    have x0 : (w1.setCell ⟨w.heap.size, 0, none⟩ (.int .i64 0)).cell? ⟨w.heap.size, 0, none⟩ = some (.int .i64 0) := cell_of y0 0
    have x1 : ((w1.setCell ⟨w.heap.size, 0, none⟩ (.int .i64 0)).setCell ⟨w.heap.size, 1, none⟩ (.string p0)).cell? ⟨w.heap.size, 1, none⟩ = some (.string p0) := cell_of (heap_set_same y0 1 _) 1
    refine bodyPost_ret (v := resV 0 p0) (by simp [results, Tryz.results59, go_sem, x0, x1]; rfl) rfl ⟨rfl, (hch.setCell (p := ⟨w.heap.size, 0, none⟩) (fun _ => hB) _).setCell (p := ⟨w.heap.size, 1, none⟩) (fun _ => hB) _⟩
end Go.Proofs.YthglfmacjoecgaaGreatDoor
namespace Go.Proofs.YthglfmacjoecgaaGreatDoor
open Go.RowKit

def byteN (code : ByteArray) (i : Nat) : UInt8 := if h : i < code.size then code[i] else 0
theorem byteN_eq {code : ByteArray} {i : Nat} (h : i < code.size) : byteN code i = code[i] := dif_pos h
/-- What Run answers from here on. -/
def runR (H : ByteArray → ByteArray) (code : ByteArray) (ins : List ByteArray) : Nat → Nat → Nat → List ByteArray → (Nat × ByteArray) × Nat
  | 0, at_, n, l => if at_ = code.size then (endR l, n) else if code.size < at_ ∨ widN code at_ = 0 then ((32, .empty), n) else ((30, .empty), n)
  | f + 1, at_, n, l => if at_ = code.size then (endR l, n) else if code.size < at_ ∨ widN code at_ = 0 then ((32, .empty), n) else
    let s := code.extract at_ (at_ + widN code at_)
    let q := stepRM H ins (byteN code at_) (numN s) s at_ l
    if q.1 = 0 then runR H code ins f q.2.1 (n + 1) q.2.2 else ((q.1, .empty), n + 1)
def runOut (H : ByteArray → ByteArray) (code : ByteArray) (ins : List ByteArray) : (Nat × ByteArray) × Nat :=
  if 64 < code.size ∨ 4 < ins.length ∨ ∃ s ∈ ins, 512 < s.size then ((4, .empty), 0) else runR H code ins 300 0 0 []

theorem runR_end {H : ByteArray → ByteArray} {code : ByteArray} {ins : List ByteArray} (f n : Nat) {at_ : Nat} {l : List ByteArray} (h : at_ = code.size) : runR H code ins f at_ n l = (endR l, n) := by
  cases f <;> (unfold runR; rw [if_pos h])
theorem runR_op {H : ByteArray → ByteArray} {code : ByteArray} {ins : List ByteArray} (f n : Nat) {at_ : Nat} {l : List ByteArray} (h : at_ ≠ code.size) (h2 : code.size < at_ ∨ widN code at_ = 0) : runR H code ins f at_ n l = ((32, .empty), n) := by
  cases f <;> (unfold runR; rw [if_neg h, if_pos h2])
theorem runR_fuel {H : ByteArray → ByteArray} {code : ByteArray} {ins : List ByteArray} (n : Nat) {at_ : Nat} {l : List ByteArray} (h : at_ ≠ code.size) (h2 : ¬ (code.size < at_ ∨ widN code at_ = 0)) : runR H code ins 0 at_ n l = ((30, .empty), n) := by
  unfold runR; rw [if_neg h, if_neg h2]
theorem runR_step {H : ByteArray → ByteArray} {code : ByteArray} {ins : List ByteArray} (f n : Nat) {at_ : Nat} {l : List ByteArray} (h : at_ ≠ code.size) (h2 : ¬ (code.size < at_ ∨ widN code at_ = 0)) {s : ByteArray} (hs : s = code.extract at_ (at_ + widN code at_)) {q : Nat × Nat × List ByteArray} (hq : q = stepRM H ins (byteN code at_) (numN s) s at_ l) :
    runR H code ins (f + 1) at_ n l = if q.1 = 0 then runR H code ins f q.2.1 (n + 1) q.2.2 else ((q.1, .empty), n + 1) := by
  subst hs hq
  rw [runR, if_neg h, if_neg h2]

theorem pushR_ok (l ss : List ByteArray) (h1 : l.length ≤ 8) (h2 : ∀ x ∈ l, x.size ≤ 512) : (pushR l ss).2.length ≤ 8 ∧ ∀ x ∈ (pushR l ss).2, x.size ≤ 512 := by
  induction ss generalizing l with
  | nil => exact ⟨h1, h2⟩
  | cons s ss ih =>
    rw [pushR_cons]
    split
    · exact ⟨h1, h2⟩
    · split
      · exact ⟨h1, h2⟩
      · refine ih _ (by simp; omega) ?_
        intro x hx
        rcases List.mem_append.1 hx with hx | hx
        · exact h2 x hx
        · simp at hx; subst hx; omega
theorem stepR_ok (H : ByteArray → ByteArray) (ins : List ByteArray) (c : UInt8) (n : Nat) (s : ByteArray) (at_ : Nat) (l : List ByteArray) (h1 : l.length ≤ 8) (h2 : ∀ x ∈ l, x.size ≤ 512) (h3 : at_ + s.size ≤ 1000) (h4 : n ≤ 1000) :
    (stepRM H ins c n s at_ l).2.2.length ≤ 8 ∧ (∀ x ∈ (stepRM H ins c n s at_ l).2.2, x.size ≤ 512) ∧ (stepRM H ins c n s at_ l).2.1 ≤ 1000 := by
  unfold stepRM
  split
  · exact ⟨h1, h2, by show at_ ≤ 1000; omega⟩
  split
  · exact ⟨h1, h2, by show at_ ≤ 1000; omega⟩
  · have := pushR_ok (l.take (l.length - takeN c)) (putsR H ins c n s ((l.drop (l.length - takeN c)).getD 0 .empty) ((l.drop (l.length - takeN c)).getD 1 .empty)) (by simp; omega) (fun x hx => h2 x (List.mem_of_mem_take hx))
    refine ⟨this.1, this.2, ?_⟩
    show goesR c n (at_ + s.size) _ ≤ 1000
    unfold goesR
    split
    · exact h4
    split
    · split <;> assumption
    · exact h3
theorem pushR_code (l ss : List ByteArray) : (pushR l ss).1 ≤ 33 := by
  induction ss generalizing l with
  | nil => exact Nat.zero_le _
  | cons s ss ih => rw [pushR_cons]; split; · exact (by decide : 31 ≤ 33)
                    split; · exact (by decide : 33 ≤ 33)
                    exact ih _
theorem stepR_code (H : ByteArray → ByteArray) (ins : List ByteArray) (c : UInt8) (n : Nat) (s : ByteArray) (at_ : Nat) (l : List ByteArray) : (stepRM H ins c n s at_ l).1 ≤ 33 := by
  unfold stepRM
  split
  · exact (by decide : 32 ≤ 33)
  split
  · exact (by decide : 31 ≤ 33)
  · exact pushR_code _ _

theorem wid_ok {code : ByteArray} {i : Nat} (h : i < code.size) (hz : widN code i ≠ 0) : okL code[i] = true ∧ i + widN code i ≤ code.size ∧ 1 ≤ widN code i ∧ (code[i] = 112 → 2 ≤ widN code i) := by
  have hle := (widN_le code i).resolve_right hz
  refine ⟨?_, hle, by omega, ?_⟩
  · unfold widN at hz
    rw [dif_pos h] at hz
    unfold okL
    have h0 : wid0 code i h ≠ 0 := by intro e; rw [e] at hz; simp at hz
    unfold wid0 at h0
    by_cases e1 : plainB code[i] = true
    · simp [e1]
    · by_cases e2 : numB code[i] = true
      · simp [e2]
      · rw [if_neg e1, if_neg e2] at h0
        by_cases e3 : code[i] = 112
        · simp [e3]
        · rw [dif_neg (fun hh => e3 hh.1)] at h0; exact absurd rfl h0
  · intro e
    unfold widN at hz ⊢
    rw [dif_pos h] at hz ⊢
    split at hz
    · exact absurd rfl hz
    rw [if_neg (by assumption)]
    have p1 : ¬ plainB code[i] = true := by rw [e]; decide +kernel
    have p2 : ¬ numB code[i] = true := by rw [e]; decide +kernel
    unfold wid0 at hz ⊢
    rw [if_neg p1, if_neg p2] at hz ⊢
    split at hz
    · rename_i h5; rw [dif_pos h5]; omega
    · exact absurd rfl hz

/-- The result's block, stored and read. -/
theorem res_stored {W : World} {R : Nat} {a b : Value} (h : W.heap[R]? = some (.cells #[a, b] 47 (0, 0))) (u t : Value) :
    (W.setCell ⟨R, 0, none⟩ u).cell? ⟨R, 0, none⟩ = some u ∧ ((W.setCell ⟨R, 0, none⟩ u).setCell ⟨R, 1, none⟩ t).cell? ⟨R, 1, none⟩ = some t ∧ ((W.setCell ⟨R, 0, none⟩ u).setCell ⟨R, 1, none⟩ t).cell? ⟨R, 0, none⟩ = some u := by
  have y0 := heap_set_same h 0 u
  exact ⟨cell_of y0 0, cell_of (heap_set_same y0 1 t) 1, cell_of (heap_set_same y0 1 t) 0⟩
theorem res_chg {F : Nat → Prop} {w W : World} (h : Chg F w W) (u t : Value) : Chg F w ((W.setCell ⟨w.heap.size, 0, none⟩ u).setCell ⟨w.heap.size, 1, none⟩ t) :=
  (h.setCell (p := ⟨w.heap.size, 0, none⟩) (fun h => absurd h (Nat.lt_irrefl _)) u).setCell (p := ⟨w.heap.size, 1, none⟩) (fun h => absurd h (Nat.lt_irrefl _)) t
theorem own_chg {w W2 W : World} (h : Chg (fun _ => False) w W2) (h2 : Chg (fun k => w.heap.size + 1 ≤ k) W2 W) : Chg (fun _ => False) w W := h.trans h2 (fun i hi h => by omega)

set_option maxRecDepth 100000 in
set_option maxHeartbeats 4000000 in
theorem run_any (H : ByteArray → ByteArray) (code : ByteArray) (hs : code.size ≤ maxLen) (v : Value) (ins : List ByteArray) (w : World) (hin : StrsAt w v ins) (hT : TabsOK w.heap.size w) (hH : (∀ i (h : i < code.size), code[i] ≠ 104) ∨ StepH H) :
    Calls Tryz.prog 25 #[.string code, v] w (Rets (.tuple #[resV (runOut H code ins).1.1 (runOut H code ins).1.2, .int .i64 (runOut H code ins).2]) (Chg (fun _ => False) w)) := by
  unfold maxLen at hs
  obtain ⟨oa, cap, rfl⟩ : ∃ oa cap, v = .slice oa ins.length cap := by
    rcases hin.1 with ⟨rfl, rfl⟩ | ⟨a, cap, rfl, _⟩
    · exact ⟨none, 0, rfl⟩
    · exact ⟨some a, cap, rfl⟩
  have hmx := hin.2.1
  unfold maxLen at hmx
  by_cases hbig : 64 < code.size ∨ 4 < ins.length ∨ ∃ s ∈ ins, 512 < s.size
  · have hout : runOut H code ins = ((4, .empty), 0) := by unfold runOut; rw [if_pos hbig]
    have HQ := hid hout
    clear hout
    by_cases c1 : 64 < code.size
    · have d1 : decide ((64 : Int) < (code.size : Int)) = true := by simp; omega
      have c1' : (64 : Int) < (code.size : Int) := by omega
      clear hin
      go_enter Tryz.func25, Tryz.ntmps25
      go_wp2_with fail
      refine bodyPost_ret (v := .tuple #[resV 4 .empty, .int .i64 0]) (by simp [results, Tryz.results25, go_sem]; rfl) rfl ⟨by rw [HQ.out] <;> rfl, (Chg.refl _ w).alloc _⟩
    · have d1 : decide ((64 : Int) < (code.size : Int)) = false := by simp; omega
      by_cases c2 : 4 < ins.length
      · have d2 : decide ((4 : Int) < (ins.length : Int)) = true := by simp; omega
        clear hin
        go_enter Tryz.func25, Tryz.ntmps25
        go_wp2_with fail
        refine bodyPost_ret (v := .tuple #[resV 4 .empty, .int .i64 0]) (by simp [results, Tryz.results25, go_sem]; rfl) rfl ⟨by rw [HQ.out] <;> rfl, (Chg.refl _ w).alloc _⟩
      · have d2 : decide ((4 : Int) < (ins.length : Int)) = false := by simp; omega
        have h3 : ∃ s ∈ ins, 512 < s.size := (hbig.resolve_left c1).resolve_left c2
        have hin1 := hin.chg ((Chg.refl (fun _ => False) w).alloc (.cells #[.int .i64 0, .string .empty] 47)) (fun _ _ h => h)
        have hcf := cf_any _ ins _ hin1
        rw [decide_eq_true h3] at hcf
        clear hin hin1 hbig h3
        go_enter Tryz.func25, Tryz.ntmps25
        go_wp2_with (go_at_call 57; refine hcf.mono ?_; rintro e w' ⟨rfl, rfl⟩)
        refine bodyPost_ret (v := .tuple #[resV 4 .empty, .int .i64 0]) (by simp [results, Tryz.results25, go_sem]; rfl) rfl ⟨by rw [HQ.out] <;> rfl, (Chg.refl _ w).alloc _⟩
  · have hout : runOut H code ins = runR H code ins 300 0 0 [] := by unfold runOut; rw [if_neg hbig]
    have h1 : ¬ 64 < code.size := fun h => hbig (.inl h)
    have h2 : ¬ 4 < ins.length := fun h => hbig (.inr (.inl h))
    have h3 : ¬ ∃ s ∈ ins, 512 < s.size := fun h => hbig (.inr (.inr h))
    have h1' : (code.size : Int) ≤ 64 := by omega
    have h2' : (ins.length : Int) ≤ 4 := by omega
    have d1 : decide ((64 : Int) < (code.size : Int)) = false := by simp; omega
    have d2 : decide ((4 : Int) < (ins.length : Int)) = false := by simp; omega
    have hcf : ∀ w1, StrsAt w1 (.slice oa ins.length cap) ins → Calls Tryz.prog 57 #[.slice oa ins.length cap, .func (.func 58) #[] #[]] w1 (Rets (.bool false) (fun w' => w1 = w')) := fun w1 hh => by
      have := cf_any _ ins w1 hh
      rw [decide_eq_false h3] at this
      exact this
    have hin1 := hin.chg ((Chg.refl (fun _ => False) w).alloc (.cells #[.int .i64 0, .string .empty] 47)) (fun _ _ h => h)
    have HOUT := hid hout
    have HIN := hid hin
    clear hbig hin hout
    go_enter Tryz.func25, Tryz.ntmps25
    go_wp2_with (go_at_call 57; refine (hcf _ hin1).mono ?_; rintro e w' ⟨rfl, rfl⟩)
    have hM0 : MachV (w.heap.size + 1) ((w.alloc (.cells #[.int .i64 0, .string .empty] 47)).alloc (.cells #[.slice none 0 0, .string code, .slice oa ins.length cap, .int .i64 0] 121)) (w.heap.size + 1) (.slice none 0 0) code (.slice oa ins.length cap) 0 [] := by
      refine ⟨⟨?_, rfl, World.ownsRow_nil _ _ _ _, by simp [Value.ownBlock]⟩, Nat.le_refl _, by simp [Value.ownBlock]⟩
      have := heap_alloc_new (w.alloc (.cells #[.int .i64 0, .string .empty] 47)) (.cells #[.slice none 0 0, .string code, .slice oa ins.length cap, .int .i64 0] 121)
      unfold machCells
      simpa using this
    have hW2 : Chg (fun _ => False) w ((w.alloc (.cells #[.int .i64 0, .string .empty] 47)).alloc (.cells #[.slice none 0 0, .string code, .slice oa ins.length cap, .int .i64 0] 121)) := ((Chg.refl _ w).alloc _).alloc _
    have hR0 : ((w.alloc (.cells #[.int .i64 0, .string .empty] 47)).alloc (.cells #[.slice none 0 0, .string code, .slice oa ins.length cap, .int .i64 0] 121)).heap[w.heap.size]? = some (.cells #[.int .i64 0, .string .empty] 47 (0, 0)) := heap_alloc_old' (heap_alloc_new _ _) _
    have hS0 : w.heap.size + 1 ≤ ((w.alloc (.cells #[.int .i64 0, .string .empty] 47)).alloc (.cells #[.slice none 0 0, .string code, .slice oa ins.length cap, .int .i64 0] 121)).heap.size := by simp
    generalize hW2e : ((w.alloc (.cells #[.int .i64 0, .string .empty] 47)).alloc (.cells #[.slice none 0 0, .string code, .slice oa ins.length cap, .int .i64 0] 121)) = W2 at hM0 hW2 hR0 hS0 ⊢
    clear hW2e hin1
    go_loopw [7] (fun nv wr => ∃ n at_ l v, n ≤ 300 ∧ nv = .int .i64 (n : Nat) ∧ MachV (w.heap.size + 1) wr (w.heap.size + 1) v code (.slice oa ins.length cap) at_ l ∧ l.length ≤ 8 ∧ (∀ x ∈ l, x.size ≤ 512) ∧ at_ ≤ 1000 ∧ runOut H code ins = runR H code ins (300 - n) at_ n l ∧ Chg (fun k => w.heap.size + 1 ≤ k) W2 wr) (fun nv _ => 301 - (intOf nv).toNat)
    case atStart => exact ⟨0, 0, [], _, by decide, rfl, hM0, by decide, by simp, by decide, HOUT.out, Chg.refl _ _⟩
    case round =>
      obtain ⟨n, at_, l, v, hn, rfl, hM, hl, hall, hat, hrun, hch⟩ := hrel
      have c3 := hM.cell3
      have f3 := frozen_of hM.st.heap 3
      have hB : w.heap.size + 1 ≤ wr.heap.size := Nat.le_trans hS0 hch.size
      have hR := hch.obj hR0 (by omega)
      have r0 := cell_of hR 0
      have r1 := cell_of hR 1
      have g0 := frozen_of hR 0
      have g1 := frozen_of hR 1
      simp at r0 r1
      have HC := hid hch
      have HM := hid hM
      have HR := hid hrun
      have HRB := hid hR
      have HAL := hid hall
      clear hch hM hrun hR hall hM0 hR0
      by_cases he : at_ = code.size
      · have he' : ((at_ : Int) == (code.size : Int)) = true := by simp [he]
        have hend := end_any HM.out hB hl
        unfold resV at hend
        have HQ := hid (show runOut H code ins = (endR l, n) from HR.out.trans (runR_end _ _ he))
        clear HR HOUT
        go_wp2_with (go_at_call 59; refine hend.mono ?_; rintro e w1 ⟨rfl, hch1⟩; have hR1 := hch1.obj HRB.out (by omega); have r0' := cell_of hR1 0; have r1' := cell_of hR1 1; have g0' := frozen_of hR1 0; have g1' := frozen_of hR1 1)
        have XS := res_stored hR1 (.int .i64 (endR l).1) (.string (endR l).2)
        refine bodyPost_ret (v := .tuple #[resV (endR l).1 (endR l).2, .int .i64 n]) (by simp [results, Tryz.results25, go_sem, XS.1, XS.2.1]; rfl) rfl ⟨by rw [HQ.out] <;> rfl, res_chg (own_chg hW2 (HC.out.trans hch1 (fun _ _ h => h))) _ _⟩
      · have he' : ((at_ : Int) == (code.size : Int)) = false := by simp; omega
        by_cases ho : code.size < at_
        · have ho' : (code.size : Int) < (at_ : Int) := by omega
          have XS := hid (res_stored HRB.out (.int .i64 32) (.string { data := #[] }))
          have HQ := hid (show runOut H code ins = ((32, .empty), n) from HR.out.trans (runR_op _ _ he (.inl ho)))
          clear HR HOUT
          go_wp2_with fail
          refine bodyPost_ret (v := .tuple #[resV 32 .empty, .int .i64 n]) (by simp [results, Tryz.results25, go_sem, XS.out.1, XS.out.2.1]; rfl) rfl ⟨by rw [HQ.out] <;> rfl, res_chg (own_chg hW2 HC.out) _ _⟩
        · have ho' : ¬ (code.size : Int) < (at_ : Int) := by omega
          have hlt : at_ < code.size := by omega
          have hwa : ∀ w : World, Calls Tryz.prog 60 #[.string code, .int .i64 at_] w (Rets (.int .i64 (widN code at_)) (fun w' => w = w')) := fun w =>
            width_any code at_ w hlt (by unfold maxLen; omega)
          by_cases hz : widN code at_ = 0
          · have hz' : ((widN code at_ : Int) == 0) = true := by simp [hz]
            have HQ := hid (show runOut H code ins = ((32, .empty), n) from HR.out.trans (runR_op _ _ he (.inr hz)))
            clear HR HOUT
            go_wp2_with (go_at_call 60; refine (hwa _).mono ?_; rintro e w' ⟨rfl, rfl⟩)
            refine bodyPost_ret (v := .tuple #[resV 32 .empty, .int .i64 n]) (by simp [results, Tryz.results25, go_sem, (res_stored HRB.out (.int .i64 32) (.string { data := #[] })).1, (res_stored HRB.out (.int .i64 32) (.string { data := #[] })).2.1]; rfl) rfl ⟨by rw [HQ.out] <;> rfl, res_chg (own_chg hW2 HC.out) _ _⟩
          · have hz' : ((widN code at_ : Int) == 0) = false := by simp [hz]
            by_cases hf : n = 300
            · subst hf
              have HQ := hid (show runOut H code ins = ((30, .empty), 300) from HR.out.trans (runR_fuel _ he (fun h => h.elim (fun h => ho h) (fun h => hz h))))
              clear HR HOUT
              go_wp2_with (go_at_call 60; refine (hwa _).mono ?_; rintro e w' ⟨rfl, rfl⟩)
              refine bodyPost_ret (v := .tuple #[resV 30 .empty, .int .i64 300]) (by simp [results, Tryz.results25, go_sem, (res_stored HRB.out (.int .i64 30) (.string { data := #[] })).1, (res_stored HRB.out (.int .i64 30) (.string { data := #[] })).2.1]; rfl) rfl ⟨by rw [HQ.out] <;> rfl, res_chg (own_chg hW2 HC.out) _ _⟩
            · have hf' : ((n : Int) == 300) = false := by simp; omega
              obtain ⟨k1, k2, k3, k4⟩ := wid_ok hlt hz
              have hle' : (at_ : Int) + (widN code at_ : Int) ≤ (code.size : Int) := by omega
              have hle2 : (at_ : Int) ≤ (at_ : Int) + (widN code at_ : Int) := by omega
              have hle3 : (0 : Int) ≤ (at_ : Int) + (widN code at_ : Int) := by omega
              have hwr : IntKind.i64.wrap ((at_ : Int) + (widN code at_ : Int)) = (at_ : Int) + (widN code at_ : Int) := IntWalk.i64_in _ (by omega)
              have hle4 : ((at_ : Int) + (widN code at_ : Int)).toNat = at_ + widN code at_ := by omega
              have hss : (code.extract at_ (at_ + widN code at_)).size = widN code at_ := by simp; omega
              have hs0 : (code.extract at_ (at_ + widN code at_))[0]'(by omega) = code[at_] := by simp [ByteArray.getElem_extract]
              have hTB : TabsOK (w.heap.size + 1) wr.drew := by
                have h1 : TabsOK (w.heap.size + 1) w := ⟨hT.pow, hT.wds, Nat.lt_succ_of_lt hT.gp, Nat.lt_succ_of_lt hT.gw⟩
                exact h1.chg (((hW2.mono (fun _ _ h => h.elim)).trans HC.out (fun _ _ h => h)).drew)
              have hHs : (code.extract at_ (at_ + widN code at_))[0]'(by omega) = 104 → StepH H := by
                intro e
                rw [hs0] at e
                exact hH.resolve_left (fun hn => hn at_ hlt e)
              have hstep := step_any H HM.out.drew hB hl HAL.out hat (code.extract at_ (at_ + widN code at_)) (by omega) (by omega) (by rw [hs0]; exact k1) (by rw [hs0, hss]; exact k4) (HIN.out) (by omega) ((hW2.mono (fun _ _ h => h.elim)).trans HC.out (fun _ _ h => h)).drew hTB hHs
              have hQ := runR_step (H := H) (ins := ins) (l := l) (300 - (n + 1)) n he (fun h => h.elim (fun h => ho h) (fun h => hz h)) rfl rfl
              rw [show (300 - (n + 1)) + 1 = 300 - n by omega] at hQ
              have hok := stepR_ok H ins code[at_] (numN (code.extract at_ (at_ + widN code at_))) (code.extract at_ (at_ + widN code at_)) at_ l hl HAL.out (by rw [hss]; omega) (by have := numN_lt (code.extract at_ (at_ + widN code at_)); omega)
              have hcd := stepR_code H ins code[at_] (numN (code.extract at_ (at_ + widN code at_))) (code.extract at_ (at_ + widN code at_)) at_ l
              rw [byteN_eq hlt] at hQ
              rw [hs0] at hstep
              generalize stepRM H ins code[at_] (numN (code.extract at_ (at_ + widN code at_))) (code.extract at_ (at_ + widN code at_)) at_ l = q at hQ hok hcd hstep
              have HQ := hid (HR.out.trans hQ)
              have HK := hid hok
              clear HR HOUT hok hQ
              by_cases hq : q.1 = 0
              · have hq' : ((q.1 : Int) == 0) = true := by simp [hq]
                go_wp2_with (go_at_call 60; refine (hwa _).mono ?_; rintro e w' ⟨rfl, rfl⟩)
                refine wp_region_still_tail 18 (by kernel_rfl) (by kernel_rfl) ?_
                simp only [List.take_succ_cons, List.take_zero, List.drop_succ_cons, List.drop_zero]
                repeat still_step
                still_call ((hwa _).mono fun e w' ⟨he, hw⟩ => ⟨he, hw.symm⟩)
                repeat still_step
                refine wpStill_nil ?_
                change wpList _ _ _ _ _ wr.drew
                go_wp2_with (go_at_call 61; refine (hstep).mono ?_; rintro e w1 ⟨rfl, hch1, v1, hM1⟩)
                all_goals go_roundw
                case rel =>
                  refine ⟨n + 1, q.2.1, q.2.2, v1, by omega, by go_num, hM1, HK.out.1, HK.out.2.1, HK.out.2.2, ?_, HC.out.drew.trans hch1 (fun _ _ h => h)⟩
                  rw [HQ.out, if_pos hq]
                case measure => simp [intOf]; omega
              · have hq' : ((q.1 : Int) == 0) = false := by simp; omega
                go_wp2_with (go_at_call 60; refine (hwa _).mono ?_; rintro e w' ⟨rfl, rfl⟩)
                refine wp_region_still_tail 18 (by kernel_rfl) (by kernel_rfl) ?_
                simp only [List.take_succ_cons, List.take_zero, List.drop_succ_cons, List.drop_zero]
                repeat still_step
                still_call ((hwa _).mono fun e w' ⟨he, hw⟩ => ⟨he, hw.symm⟩)
                repeat still_step
                refine wpStill_nil ?_
                change wpList _ _ _ _ _ wr.drew
                go_wp2_with (go_at_call 61; refine (hstep).mono ?_; rintro e w1 ⟨rfl, hch1, v1, hM1⟩; have hR1 := hch1.obj HRB.out (by omega); have r0' := cell_of hR1 0; have r1' := cell_of hR1 1; have g0' := frozen_of hR1 0; have g1' := frozen_of hR1 1)
                have XS := hid (res_stored hR1 (.int .i64 q.1) (.string { data := #[] }))
                refine bodyPost_ret (v := .tuple #[resV q.1 .empty, .int .i64 (n + 1 : Nat)]) (by simp [results, Tryz.results25, go_sem, XS.out.1, XS.out.2.1]; rfl) rfl ⟨by rw [HQ.out, if_neg hq] <;> rfl, res_chg (own_chg hW2 (HC.out.drew.trans hch1 (fun _ _ h => h))) _ _⟩
end Go.Proofs.YthglfmacjoecgaaGreatDoor
namespace Go.Proofs.YthglfmacjoecgaaGreatDoor
open Go.RowKit

end Go.Proofs.YthglfmacjoecgaaGreatDoor
namespace Go.Proofs.YthglfmacjoecgaaGreatDoor
open Go.RowKit

end Go.Proofs.YthglfmacjoecgaaGreatDoor
namespace Go.Proofs.YthglfmacjoecgaaGreatDoor
open Go.RowKit

/-- What an action comes to. -/
def makeF (code : ByteArray) (rs : List ResR) : ResR := if ∃ r ∈ rs, r.1 ≠ 0 then (34, ByteArray.empty) else (((runOut hashS code (rs.map Prod.snd)).1.1 : Int), (runOut hashS code (rs.map Prod.snd)).1.2)
def resW (r : ResR) : Value := .agg #[.int .i64 r.1, .string r.2]
theorem run_h {B : Nat} (code : ByteArray) (hs : code.size ≤ maxLen) (v : Value) (ins : List ByteArray) (w : World) (hin : StrsAt w v ins) (hT : TabsOK B w) (hB : B ≤ w.heap.size) :
    Calls Tryz.prog 25 #[.string code, v] w (Rets (.tuple #[resV (runOut hashS code ins).1.1 (runOut hashS code ins).1.2, .int .i64 (runOut hashS code ins).2]) (Chg (fun _ => False) w)) :=
  run_any hashS code hs v ins w hin (hT.mono hB) (.inr step_h)
theorem strs_own {w : World} {v : Value} {l : List ByteArray} {n : Nat} (h : w.ownsRow 0 9 1 v n (l.map Value.string)) (hn : n = l.length) (h1 : l.length ≤ 1000) (h2 : ∀ s ∈ l, s.size ≤ 100000) : StrsAt w v l := by
  subst hn
  have e : l.map Value.string = (l.map bl).map nmV := by
    rw [List.map_map]
    exact List.map_congr_left (fun s _ => by show Value.string s = Value.string (bs (bl s)); rw [bs_bl])
  rw [e, ← List.length_map (f := bl)] at h
  have h3 := NamesAt.of_owns h (by simp; unfold maxLen; omega) (fun s hs => by
    obtain ⟨x, hx, rfl⟩ := List.mem_map.1 hs
    have := h2 x hx
    rw [bl_len]; unfold maxLen; omega)
  have e2 : (l.map bl).map bs = l := by
    rw [List.map_map]
    calc l.map (bs ∘ bl) = l.map id := List.map_congr_left (fun s _ => bs_bl s)
      _ = l := List.map_id l
  unfold NamesAt at h3
  rwa [e2] at h3

set_option maxRecDepth 100000 in
set_option maxHeartbeats 4000000 in
theorem make_any {B : Nat} (code : ByteArray) (hc : code.size ≤ 1000) (rs : List ResR) (hn : rs.length ≤ 32) (hb : ∀ r ∈ rs, r.2.size ≤ 100000) (v : Value) (w : World) (hin : ResAt w v rs) (hT : TabsOK B w) (hB : B ≤ w.heap.size) :
    Calls Tryz.prog 30 #[.string code, v] w (Rets (resW (makeF code rs)) (Chg (fun _ => False) w)) := by
  have hlen := hin.len
  have HIN := hid hin
  have HT := hid hT
  have HBB := hid hB
  have HBZ := hid hb
  have ha1 := heap_alloc_new' w (.cells #[.int .i64 0, .string { data := #[] }] 47)
  have hc1 := al_chg w (.cells #[.int .i64 0, .string { data := #[] }] 47)
  have hs1 : (w.alloc (.cells #[.int .i64 0, .string { data := #[] }] 47)).heap.size = w.heap.size + 1 := by simp
  have HA1 := hid ha1
  have HC1 := hid hc1
  have HS1 := hid hs1
  clear hin hT hB hb ha1 hc1 hs1
  go_enter Tryz.func30, Tryz.ntmps30
  go_wp2_with fail
  generalize w.alloc (.cells #[.int .i64 0, .string { data := #[] }] 47) = w1 at *
  obtain ⟨d0, hd0⟩ : ∃ d0, d0 = w.heap.size := ⟨_, rfl⟩
  have HD0 := hid hd0
  rw [← hd0] at HA1 HS1 ⊢
  clear hd0
  go_loopw [5, 12] (fun v5 i wr => ∃ (k : Nat) (x : Value), x = v5 ∧ k ≤ rs.length ∧ i = .int .i64 k ∧ wr.ownsRow 0 9 1 x k (((rs.take k).map Prod.snd).map Value.string) ∧ (∀ q, x.ownBlock = some q → d0 + 1 ≤ q) ∧ Chg (fun _ => False) w1 wr ∧ ∀ r ∈ rs.take k, r.1 = 0) (fun _ i _ => rs.length - (intOf i).toNat)
  case atStart => exact ⟨0, _, rfl, Nat.zero_le _, rfl, World.ownsRow_nil _ _ _ _, (fun q h => by cases h), Chg.refl _ _, by simp⟩
  case round =>
    obtain ⟨k, x5, hx5, hk, rfl, hown, hbl, hch, hz⟩ := hrel
    subst hx5
    have HOWN := hid hown
    have HBL := hid hbl
    have HCH := hid hch
    have HZ := hid hz
    clear hown hbl hch hz
    by_cases hkn : k < rs.length
    · have hkn' : (k : Int) < rs.length := by omega
      have hcw : Chg (fun _ => False) w wr := HC1.out.trans HCH.out (fun _ _ h => h)
      obtain ⟨bb, oo, hix, e0, e1, hlt⟩ := (HIN.out.chg hcw (fun _ _ h => h)).ix k hkn
      have HTK : Hid (((rs.take (k + 1)).map Prod.snd).map Value.string = ((rs.take k).map Prod.snd).map Value.string ++ [.string rs[k].2]) := hid (by rw [List.take_succ_eq_append_getElem hkn, List.map_append, List.map_append]; rfl)
      have HTM : Hid (∀ r ∈ rs.take (k + 1), r ∈ rs.take k ∨ r = rs[k]) := hid (fun r hr => by
        rw [List.take_succ_eq_append_getElem hkn, List.mem_append] at hr
        rcases hr with h | h
        · exact .inl h
        · exact .inr (List.mem_singleton.1 h))
      have HME := hid (List.getElem_mem hkn)
      have HSZ : Hid (d0 + 1 ≤ wr.heap.size) := hid (by have := HCH.out.size; have := HS1.out; omega)
      have hcz : ∃ cd, cd = rs[k].1 := ⟨_, rfl⟩
      obtain ⟨cd, hcd⟩ := hcz
      have HCD := hid hcd
      rw [← hcd] at e0
      clear hcd hcw
      obtain ⟨b2, hb2⟩ : ∃ b2, b2 = rs[k].2 := ⟨_, rfl⟩
      rw [← hb2] at e1 HTK
      clear hb2
      have hkd := heap_alloc_old' (HCH.out.obj HA1.out (fun h => h)) (.cells #[.int .i64 cd, .string b2] 47)
      have q0 := cell_of hkd 0
      have q1 := cell_of hkd 1
      have f0 := frozen_of hkd 0
      have f1 := frozen_of hkd 1
      simp at q0 q1
      have XS := hid (res_stored hkd (.int .i64 34) (.string { data := #[] }))
      have hdn : ¬ d0 = wr.heap.size := by have := HSZ.out; omega
      have hdn2 : ¬ wr.heap.size = d0 := by have := HSZ.out; omega
      clear hkd
      by_cases h0 : cd = 0
      · subst h0
        go_wp2_with (guard_target =~ wpList _ _ _ (Oper.mk (some 24) _ _ _ _ _ :: _) _ _; refine wpList_append_new rfl _ _ 22 rfl elStr (HOWN.out.alloc (.cells #[.int .i64 0, .string b2] 47)) rfl #[.string b2] 1 1 (by exact congrArg (fun k : Nat => Value.slice (some ⟨k, 0, none⟩) 1 1) (show _ = _ by simp)) rfl rfl (by unfold maxLen; omega) (by omega) (by decide) ?_; intro g6 cap6 w6 hown6 hch6 hg6)
        go_roundw
        case rel =>
          refine ⟨k + 1, _, rfl, by omega, by go_num, ?_, fun q hq => ?_, (HCH.out.alloc _).trans hch6 (fun q hq h => absurd (HBL.out q h) (by have := HS1.out; omega)), fun r hr => ?_⟩
          · rw [HTK.out]
            exact hown6
          · simp [Value.ownBlock] at hq
            subst hq
            rcases hg6 with h | h
            · exact HBL.out _ h
            · have := HSZ.out
              simp at h
              omega
          · rcases HTM.out r hr with h | h
            · exact HZ.out r h
            · rw [h]; exact HCD.out.symm
        case measure => simp [intOf]; omega
      · have hne : (cd == 0) = false := by rw [beq_eq_false_iff_ne]; exact h0
        have HM : Hid (makeF code rs = (34, ByteArray.empty)) := hid (by
          unfold makeF
          rw [if_pos ⟨rs[k], HME.out, by rw [← HCD.out]; exact h0⟩])
        go_wp2_with fail
        refine bodyPost_ret (v := resW (34, ByteArray.empty)) (by simp [results, Tryz.results30, go_sem, XS.out.1, XS.out.2.1]; rfl) rfl ⟨by rw [HM.out], ?_⟩
        have hcw : Chg (fun _ => False) w (wr.alloc (.cells #[.int .i64 cd, .string b2] 47)) := (HC1.out.trans HCH.out (fun _ _ h => h)).alloc _
        have := res_chg hcw (.int .i64 34) (.string { data := #[] })
        rw [← HD0.out] at this
        exact this
    · obtain rfl : k = rs.length := by omega
      have hown := HOWN.out
      rw [List.take_length] at hown
      have hz := HZ.out
      rw [List.take_length] at hz
      have hstr : StrsAt wr x5 (rs.map Prod.snd) := strs_own hown (by simp) (by simp; omega) (fun s hs => by
        obtain ⟨r, hr, rfl⟩ := List.mem_map.1 hs
        exact HBZ.out r hr)
      have hcw : Chg (fun _ => False) w wr := HC1.out.trans HCH.out (fun _ _ h => h)
      have hrun := run_h code (by unfold maxLen; omega) x5 (rs.map Prod.snd) wr hstr (HT.out.keep hcw) (Nat.le_trans HBB.out hcw.size)
      have hM : makeF code rs = (((runOut hashS code (rs.map Prod.snd)).1.1 : Int), (runOut hashS code (rs.map Prod.snd)).1.2) := by
        unfold makeF
        rw [if_neg (fun ⟨r, hr, h⟩ => h (hz r hr))]
      have HM := hid hM
      have HRUN := hid hrun
      clear hown hz hstr hcw hrun hM
      generalize (runOut hashS code (rs.map Prod.snd)).1.1 = c9 at *
      generalize (runOut hashS code (rs.map Prod.snd)).1.2 = b9 at *
      generalize (runOut hashS code (rs.map Prod.snd)).2 = n9 at *
      unfold resV at HRUN
      go_wp2_with (go_at_call 25; refine HRUN.out.mono ?_; rintro e w9 ⟨rfl, hc9⟩; have hkd := heap_alloc_old' ((HCH.out.trans hc9 (fun _ _ h => h)).obj HA1.out (fun h => h)) (.cells #[.int .i64 (c9 : Int), .string b9] 47); have q0 := cell_of hkd 0; have q1 := cell_of hkd 1; have f0 := frozen_of hkd 0; have f1 := frozen_of hkd 1; simp at q0 q1; have XS := hid (res_stored hkd (.int .i64 (c9 : Int)) (.string b9)); have hdn : ¬ d0 = w9.heap.size := (by have := HCH.out.size; have := HS1.out; have := hc9.size; omega); have hdn2 : ¬ w9.heap.size = d0 := (fun e => hdn e.symm); clear hkd)
      refine bodyPost_ret (v := resW ((c9 : Int), b9)) (by simp [results, Tryz.results30, go_sem, XS.out.1, XS.out.2.1]; rfl) rfl ⟨by rw [HM.out], ?_⟩
      have hcw : Chg (fun _ => False) w (w9.alloc (.cells #[.int .i64 (c9 : Int), .string b9] 47)) := ((HC1.out.trans HCH.out (fun _ _ h => h)).trans hc9 (fun _ _ h => h)).alloc _
      have := res_chg hcw (.int .i64 (c9 : Int)) (.string b9)
      rw [← HD0.out] at this
      exact this
end Go.Proofs.YthglfmacjoecgaaGreatDoor
namespace Go.Proofs.YthglfmacjoecgaaGreatDoor
open Go.RowKit

theorem endR_ok {l : List ByteArray} (h : ∀ x ∈ l, x.size ≤ 512) : (endR l).2.size ≤ 512 ∧ (endR l).1 ≤ 33 := by
  unfold endR
  split
  · exact ⟨Nat.zero_le _, by decide⟩
  · rename_i b hb
    exact ⟨h b (List.mem_of_getLast? hb), Nat.zero_le _⟩
theorem runR_ok (H : ByteArray → ByteArray) (code : ByteArray) (ins : List ByteArray) (hc : code.size ≤ 64) : ∀ (f at_ n : Nat) (l : List ByteArray), l.length ≤ 8 → (∀ x ∈ l, x.size ≤ 512) →
    (runR H code ins f at_ n l).1.2.size ≤ 512 ∧ (runR H code ins f at_ n l).1.1 ≤ 33
  | 0, at_, n, l, h1, h2 => by
    unfold runR
    split
    · exact endR_ok h2
    split
    · exact ⟨Nat.zero_le _, (by decide : 32 ≤ 33)⟩
    · exact ⟨Nat.zero_le _, (by decide : 30 ≤ 33)⟩
  | f + 1, at_, n, l, h1, h2 => by
    by_cases he : at_ = code.size
    · rw [runR_end _ _ he]
      exact endR_ok h2
    by_cases ho : code.size < at_ ∨ widN code at_ = 0
    · rw [runR_op _ _ he ho]
      exact ⟨Nat.zero_le _, (by decide : 32 ≤ 33)⟩
    · rw [runR_step f n he ho rfl rfl]
      have hat : at_ < code.size := by omega
      have hs : at_ + (code.extract at_ (at_ + widN code at_)).size ≤ 1000 := by simp; omega
      have hok := stepR_ok H ins (byteN code at_) (numN (code.extract at_ (at_ + widN code at_))) (code.extract at_ (at_ + widN code at_)) at_ l h1 h2 hs (by have := numN_lt (code.extract at_ (at_ + widN code at_)); omega)
      have hcd := stepR_code H ins (byteN code at_) (numN (code.extract at_ (at_ + widN code at_))) (code.extract at_ (at_ + widN code at_)) at_ l
      split
      · exact runR_ok H code ins hc f _ _ _ hok.1 hok.2.1
      · exact ⟨Nat.zero_le _, hcd⟩
theorem runOut_ok (H : ByteArray → ByteArray) (code : ByteArray) (ins : List ByteArray) : (runOut H code ins).1.2.size ≤ 512 ∧ (runOut H code ins).1.1 ≤ 33 := by
  unfold runOut
  split
  · exact ⟨Nat.zero_le _, (by decide : 4 ≤ 33)⟩
  · rename_i h
    exact runR_ok H code ins (by omega) _ _ _ _ (by simp) (by simp)
/-- A result as a build's are. -/
structure Small (r : ResR) : Prop where
  lo : 0 ≤ r.1
  hi : r.1 ≤ 34
  wide : r.2.size ≤ 512
theorem small_no : Small noRes := ⟨by decide, by decide, Nat.zero_le _⟩
theorem makeF_small (code : ByteArray) (rs : List ResR) : Small (makeF code rs) := by
  unfold makeF
  split
  · exact ⟨by decide, by decide, Nat.zero_le _⟩
  · have := runOut_ok hashS code (rs.map Prod.snd)
    exact ⟨by simp, by show ((runOut hashS code (rs.map Prod.snd)).1.1 : Int) ≤ 34; omega, this.1⟩
theorem mem_of_lval {κ ν : Type} [DecidableEq κ] {k : κ} {x : ν} {l : List (κ × ν)} (h : lval k l = some x) : (k, x) ∈ l := by
  unfold lval at h
  cases hf : lfind k l 0 with
  | none => rw [hf] at h; cases h
  | some p =>
    obtain ⟨j, y⟩ := p
    rw [hf] at h
    simp only [Option.map_some, Option.some.injEq] at h
    subst h
    exact List.mem_of_getElem? (lfind_bound hf).2.2
def FF (c : List UInt8) (rs : List ResR) : ResR := makeF (bs c) rs
theorem foldT_small (g : GrR) (srcs : List SrcR) (hs : ∀ s ∈ srcs, s.2.size ≤ 512) (hn : (srcs.map Prod.fst).Nodup) : ∀ (n : Nat) (l : List Nat), l.length = n → ∀ s, Small (valT (foldT FF g srcs l) s)
  | 0, l, hl, s => by
    rw [List.length_eq_zero_iff.1 hl]
    show Small (valT (srcT srcs) s)
    unfold valT
    cases h : lval s (srcT srcs) with
    | none => exact small_no
    | some r =>
      rw [srcT_eq hn] at h
      obtain ⟨x, hx, e⟩ := List.mem_map.1 (mem_of_lval h)
      simp only [Prod.mk.injEq] at e
      obtain ⟨_, e⟩ := e
      subst e
      exact ⟨(by decide : (0 : Int) ≤ 0), (by decide : (0 : Int) ≤ 34), hs x hx⟩
  | n + 1, l, hl, s => by
    obtain ⟨l', k, rfl⟩ : ∃ l' k, l = l' ++ [k] := by
      rcases List.eq_nil_or_concat l with h | ⟨l', k, h⟩
      · rw [h] at hl; cases hl
      · exact ⟨l', k, by rw [h]; simp⟩
    unfold valT
    rw [foldT_snoc, stepT_val]
    split
    · exact makeF_small _ _
    · exact foldT_small g srcs hs hn n l' (by simpa using hl) s

theorem nodup_le {α : Type} : ∀ (a b : List α), a.Nodup → (∀ x ∈ a, x ∈ b) → a.length ≤ b.length
  | [], _, _, _ => Nat.zero_le _
  | y :: a, b, hn, hs => by
    rw [List.nodup_cons] at hn
    obtain ⟨l1, l2, rfl⟩ := List.append_of_mem (hs y (by simp))
    have := nodup_le a (l1 ++ l2) hn.2 (fun z hz => by
      have := hs z (by simp [hz])
      simp only [List.mem_append, List.mem_cons] at this ⊢
      rcases this with h1 | rfl | h1
      · exact .inl h1
      · exact absurd hz hn.1
      · exact .inr h1)
    simp at this ⊢
    omega
theorem sub_full {α : Type} : ∀ (a b : List α), a.Nodup → (∀ x ∈ a, x ∈ b) → b.length ≤ a.length → ∀ x ∈ b, x ∈ a
  | [], b, _, _, h, x, hx => by
    have : b = [] := List.length_eq_zero_iff.1 (by simpa using h)
    rw [this] at hx; exact hx
  | y :: a, b, hn, hs, h, x, hx => by
    rw [List.nodup_cons] at hn
    obtain ⟨l1, l2, rfl⟩ := List.append_of_mem (hs y (by simp))
    by_cases e : x = y
    · simp [e]
    · refine List.mem_cons_of_mem _ (sub_full a (l1 ++ l2) hn.2 (fun z hz => ?_) (by simp at h ⊢; omega) x ?_)
      · have := hs z (by simp [hz])
        simp only [List.mem_append, List.mem_cons] at this ⊢
        rcases this with h1 | rfl | h1
        · exact .inl h1
        · exact absurd hz hn.1
        · exact .inr h1
      · simp only [List.mem_append, List.mem_cons] at hx ⊢
        rcases hx with h1 | h1 | h1
        · exact .inl h1
        · exact absurd h1 e
        · exact .inr h1

/-- What is said of a build with sources: 0, it can be made. -/
def checkS (g : GrR) (srcs : List SrcR) : Nat :=
  if checkR g ≠ 0 then checkR g else if ¬ (srcs.map Prod.fst).Nodup then 21 else if ∃ s ∈ g.srcs, s ∉ srcs.map Prod.fst then 22 else if srcs.length ≠ g.srcs.length then 22 else if ∃ s ∈ srcs, 512 < s.2.size then 33 else 0
/-- A build with sources that can be made. -/
structure Done (g : GrR) (srcs : List SrcR) : Prop where
  can : Can g
  fit : Fit g srcs
  wide : ∀ s ∈ srcs, s.2.size ≤ 512
theorem Wov.srcsNd {g : GrR} (h : Wov g) : g.srcs.Nodup := (List.nodup_append.1 h.nd).1
theorem checkS_zero {g : GrR} {srcs : List SrcR} : checkS g srcs = 0 ↔ Done g srcs := by
  unfold checkS
  constructor
  · intro h
    split at h
    · rename_i h1; exact absurd h h1
    rename_i h1
    split at h
    · cases h
    rename_i h2
    split at h
    · cases h
    rename_i h3
    split at h
    · cases h
    rename_i h4
    split at h
    · cases h
    rename_i h5
    have hc := can_iff.1 (Decidable.not_not.1 h1)
    have hm : ∀ s ∈ g.srcs, s ∈ srcs.map Prod.fst := fun s hs => Decidable.not_not.1 (fun hn => h3 ⟨s, hs, hn⟩)
    exact ⟨hc, ⟨Decidable.not_not.1 h2, fun s => ⟨fun hs => sub_full _ _ hc.w.srcsNd hm (by simp; omega) s hs, hm s⟩⟩, fun s hs => Nat.le_of_not_lt (fun hl => h5 ⟨s, hs, hl⟩)⟩
  · intro h
    rw [if_neg (by rw [can_iff.2 h.can]; simp), if_neg (by simpa using h.fit.nd), if_neg (fun ⟨s, hs, hn⟩ => hn ((h.fit.mem s).2 hs)), if_neg, if_neg (fun ⟨s, hs, hl⟩ => by have := h.wide s hs; omega)]
    have h1 : srcs.length ≤ g.srcs.length := by
      have := nodup_le _ _ h.fit.nd (fun s hs => (h.fit.mem s).1 hs)
      simpa using this
    have h2 : g.srcs.length ≤ srcs.length := by
      have := nodup_le _ _ h.can.w.srcsNd (fun s hs => (h.fit.mem s).2 hs)
      simpa using this
    omega

/-- An action's key, of what is there. -/
def keyK (g : GrR) (t : List (Nm × ResR)) (i : Nat) : Nat → UInt8 := if (FF (codeAt g i) (insT2 g t i)).1 = 34 then (fun _ => 0) else keyF (bs (codeAt g i)) (insT2 g t i)
/-- The keys, when these places have been made. -/
def keysT (g : GrR) (t : List (Nm × ResR)) (l : List Nat) (i : Nat) : Nat → UInt8 := if i ∈ l then keyK g t i else fun _ => 0
/-- What an action is made of is what is there in the end. -/
theorem ins_then {g : GrR} (hw : Wov g) (srcs : List SrcR) {l m : List Nat} {i : Nat} (h : orderR g = l ++ i :: m) : insT2 g (madeT FF g srcs) i = insT2 g (foldT FF g srcs l) i := by
  have ho := orderR_ordd g
  rw [h] at ho
  have ho2 : Ordd g ((l ++ [i]) ++ m) := by simpa using ho
  have hk : ∀ s ∈ insAt g i, s ∈ g.srcs ∨ ∃ j ∈ l, nameAt g j = s := by
    intro s hs
    rcases ho.sup l.length (by simp) s (by rw [List.getElem_append_right (Nat.le_refl _)]; simpa using hs) with h1 | ⟨j, hj, h1⟩
    · exact .inl h1
    · exact .inr ⟨l[j], List.getElem_mem hj, by rw [List.getElem_append_left hj] at h1; exact h1⟩
  unfold insT2
  refine List.map_congr_left (fun s hs => ?_)
  unfold valT madeT
  rw [h, foldl_keep hw ho srcs (hk s hs)]
end Go.Proofs.YthglfmacjoecgaaGreatDoor
namespace Go.Proofs.YthglfmacjoecgaaGreatDoor
open Go.RowKit

theorem mapM_all {α β : Type} (g : α → Option β) (h : α → β) : ∀ l : List α, (∀ x ∈ l, g x = some (h x)) → l.mapM g = some (l.map h)
  | [], _ => rfl
  | x :: l, hx => by
    simp [hx x (by simp), mapM_all g h l (fun y hy => hx y (by simp [hy]))]
theorem flat_ones {α β : Type} (h : α → β) : ∀ l : List α, (l.map fun x => [h x]).flatten = l.map h
  | [] => rfl
  | x :: l => by simp [flat_ones h l]
theorem lit_u8 (b : UInt8) : (Lit.int .u8 ((b.toNat : Nat) : Int)).wf = true := by
  have : ∀ n : Fin 256, (Lit.int .u8 ((n.1 : Nat) : Int)).wf = true := by decide +kernel
  exact this ⟨b.toNat, b.toNat_lt⟩
theorem keyLits_array {P : Program} {d : Nat} {t e : TypeId} {n : Nat} {cs : List Value} (hu : P.underlying t = some (.array n e)) :
    P.keyLits (d + 1) t cs = if cs.length = P.cellsOf t then ((List.range n).mapM fun i => P.keyLits d e ((cs.drop (i * P.cellsOf e)).take (P.cellsOf e))).map List.flatten else none := by
  simp only [Program.keyLits]
  rw [hu]
theorem keyLits_int {P : Program} {d : Nat} {t : TypeId} {q : IntKind} {n : Int} (hu : P.underlying t = some (.int q)) (hw : (Lit.int q n).wf = true) : P.keyLits (d + 1) t [.int q n] = some [.int q n] := by
  simp only [Program.keyLits]
  rw [hu]
  simp [hw]
/-- A digest's letters. -/
def digLits (f : Nat → UInt8) : List Lit := (List.range 32).map fun i => Lit.int .u8 (((f i).toNat : Nat) : Int)
theorem rowB_slice (f : Nat → UInt8) (i : Nat) (h : i < 32) : ((rowB 32 f).toList.drop (i * 1)).take 1 = [Value.int .u8 (((f i).toNat : Nat) : Int)] := by
  rw [Nat.mul_one, List.drop_eq_getElem_cons (by simp [rowB]; exact h)]
  simp [rowB]
theorem lits_dig (f : Nat → UInt8) : Tryz.prog.keyLits 2 57 (rowB 32 f).toList = some (digLits f) := by
  have hu : Tryz.prog.underlying 57 = some (.array 32 5) := Tryz.underlying57
  have hc : Tryz.prog.cellsOf 57 = 32 := by kernel_rfl
  have h8 : Tryz.prog.underlying 5 = some (.int .u8) := Tryz.underlying5
  have hc8 : Tryz.prog.cellsOf 5 = 1 := by kernel_rfl
  rw [keyLits_array hu, hc, hc8, if_pos (by simp [rowB_size])]
  rw [mapM_all _ (fun i => [Lit.int .u8 (((f i).toNat : Nat) : Int)]) (List.range 32) (fun i hi => by
    rw [rowB_slice f i (List.mem_range.1 hi)]
    exact keyLits_int h8 (lit_u8 _))]
  show some _ = some _
  rw [digLits, flat_ones]
theorem digLits_inj {f g : Nat → UInt8} : digLits f = digLits g ↔ ∀ i, i < 32 → f i = g i := by
  unfold digLits
  constructor
  · intro h i hi
    have h2 := List.map_inj_left.1 h i (List.mem_range.2 hi)
    simp only [Lit.int.injEq, true_and] at h2
    exact UInt8.toNat_inj.1 (by omega)
  · intro h
    refine List.map_congr_left (fun i hi => ?_)
    rw [h i (List.mem_range.1 hi)]
/-- '==' of two digests. -/
theorem eq_dig (f g : Nat → UInt8) (w : World) : ∃ r : Bool, (binOp .eql 57 (.agg (rowB 32 f)) (.agg (rowB 32 g))).run Tryz.prog w = .ok (.bool r) w ∧ (r = true ↔ ∀ i, i < 32 → f i = g i) := by
  have hf : ∀ h : Nat → UInt8, (Value.agg (rowB 32 h)).formed Tryz.prog 57 = true := fun h => by kernel_rfl
  obtain ⟨r, h1, h2⟩ := run_equalIn_deep (P := Tryz.prog) 9998 2 57 (by kernel_rfl) w 2 2 (.agg (rowB 32 f)) (.agg (rowB 32 g)) _ _ (hf f) (hf g) (lits_dig f) (lits_dig g)
  exact ⟨r, by rw [run_eql_struct, h1]; rfl, h2.trans digLits_inj⟩
theorem keyLits_struct {P : Program} {d : Nat} {t : TypeId} {fs : Array Field} {cs : List Value} (hu : P.underlying t = some (.struct fs)) :
    P.keyLits (d + 1) t cs = if cs.length = P.cellsOf t ∧ fs.all (·.name != "_") = true then (fs.toList.mapM fun f => P.keyLits d f.type ((cs.drop f.offset).take (P.cellsOf f.type))).map List.flatten else none := by
  simp only [Program.keyLits]
  rw [hu]
end Go.Proofs.YthglfmacjoecgaaGreatDoor
namespace Go.Proofs.YthglfmacjoecgaaGreatDoor
open Go.ChangeShapes Go.WideShapes Go.ChangeAt Go.RowKit

def noSrc : SrcR := ([], ByteArray.empty)
def srcL (s : SrcR) : List Value := [.string (bs s.1), .string s.2]
/-- v is a slice of the sources ss. -/
structure SrcsAt (w : World) (v : Value) (ss : List SrcR) : Prop where
  rows : RowsAt w v 2 ss.length (fun i => srcL (ss.getD i noSrc))
  wide : ∀ s ∈ ss, s.1.length ≤ maxLen ∧ s.2.size ≤ maxLen
theorem SrcsAt.chg {F : Nat → Prop} {w w' : World} {v : Value} {ss : List SrcR} (h : SrcsAt w v ss) (hc : Chg F w w') (hF : ∀ k, k < w.heap.size → ¬ F k) : SrcsAt w' v ss := ⟨h.rows.chg hc hF, h.wide⟩
theorem SrcsAt.len {w0 : World} {v : Value} {ss : List SrcR} (h : SrcsAt w0 v ss) (w : World) (ty : TypeId) : (Builtin.len_ #[26] ty #[v]).run Tryz.prog w = .ok (.int .i64 ss.length) w :=
  RowsAt.len (P := Tryz.prog) h.rows Tryz.underlying26 w ty
theorem SrcsAt.ix {w : World} {v : Value} {ss : List SrcR} (h : SrcsAt w v ss) (k : Nat) (hk : k < ss.length) :
    ∃ bb oo, (∀ w, (Instr.indexAt 26 v (.int .i64 k)).run Tryz.prog w = .ok (.pointer (some ⟨bb, oo, none⟩)) w) ∧ w.cell? ⟨bb, oo, none⟩ = some (.string (bs ss[k].1)) ∧ w.cell? ⟨bb, oo + 1, none⟩ = some (.string ss[k].2) ∧ bb < w.heap.size := by
  obtain ⟨bb, oo, h1, h2, h3⟩ := RowsAt.ix (P := Tryz.prog) h.rows Tryz.underlying26 (fun w => by kernel_rfl) (by decide) k hk
  have e := getD_of_lt ss noSrc k hk
  refine ⟨bb, oo, h1, ?_, ?_, h3⟩
  · have := h2 0 (by decide)
    rw [e] at this
    exact this
  · have := h2 1 (by decide)
    rw [e] at this
    exact this
theorem SrcsAt.form {w : World} {v : Value} {ss : List SrcR} (h : SrcsAt w v ss) : ∃ oa c, v = .slice oa ss.length c := by
  rcases h.rows.form with ⟨h1, h2⟩ | ⟨a, cap, h1, _⟩
  · exact ⟨none, 0, by rw [h1, h2]⟩
  · exact ⟨some a, cap, h1⟩
theorem SrcsAt.nil (w : World) : SrcsAt w (.slice none 0 0) [] := ⟨⟨.inl ⟨rfl, rfl⟩, Nat.zero_le _, fun _ hi => absurd hi (Nat.not_lt_zero _)⟩, by simp⟩

theorem rows_pick {α : Type} {w : World} {v : Value} {sz n : Nat} {C : Nat → List Value} (hR : RowsAt w v sz n C) (f : α → List Value) (no : α) (Good : α → Prop) (h : ∀ i, i < n → ∃ x, C i = f x ∧ Good x) :
    ∃ xs : List α, RowsAt w v sz xs.length (fun i => f (xs.getD i no)) ∧ ∀ x ∈ xs, Good x := by
  have hch : ∀ i, ∃ x, i < n → C i = f x ∧ Good x := fun i => by
    by_cases hi : i < n
    · obtain ⟨x, hx⟩ := h i hi
      exact ⟨x, fun _ => hx⟩
    · exact ⟨no, fun h => absurd h hi⟩
  have hL : ((List.range n).map fun i => Classical.choose (hch i)).length = n := by simp
  have hg : ∀ i, i < n → ((List.range n).map fun i => Classical.choose (hch i)).getD i no = Classical.choose (hch i) := by
    intro i hi
    simp [hi]
  refine ⟨(List.range n).map fun i => Classical.choose (hch i), ⟨?_, ?_, ?_⟩, ?_⟩
  · rw [hL]
    rcases hR.form with h | ⟨a, cap, hv, hc⟩
    · exact .inl h
    · refine .inr ⟨a, cap, hv, fun i hi j hj => ?_⟩
      rw [hg i hi, ← ((Classical.choose_spec (hch i)) hi).1]
      exact hc i hi j hj
  · rw [hL]; exact hR.le
  · intro i hi
    rw [hL] at hi
    show (f _).length = sz
    rw [hg i hi, ← ((Classical.choose_spec (hch i)) hi).1]
    exact hR.wide i hi
  · intro x hx
    obtain ⟨i, hi, rfl⟩ := List.mem_map.1 hx
    exact ((Classical.choose_spec (hch i)) (List.mem_range.1 hi)).2
section
variable {H : Type} {enc : TypeId × Value → H} {W : World} {b2 m : Nat} {u : Value} {cs : List Value} {y : DataW H × List MemPlace}
set_option maxRecDepth 100000 in
theorem srcs_of (h : DataW.trod enc Tryz.prog W b2 (fun _ => true) true m 26 [u] = some y) : ∃ ss, SrcsAt W u ss := by
  obtain ⟨n, C, hR, hC⟩ := rows_of_cell Tryz.underlying26 Tryz.underlying55 (by kernel_rfl) (by kernel_rfl) h
  obtain ⟨ss, h1, h2⟩ := rows_pick hR srcL noSrc (fun s => s.1.length ≤ maxLen ∧ s.2.size ≤ maxLen) (fun i hi => by
    have hw := hR.wide i hi
    have hf := hC i hi
    obtain ⟨u0, y0, m0, e0, r0⟩ := hf 0 _ rfl
    obtain ⟨u1, y1, m1, e1, r1⟩ := hf 1 _ rfl
    obtain ⟨ys, n', _, _, hlen, hyl, hfs⟩ := DataW.trod_struct Tryz.underlying41 r0
    have q0 := hfs 0 _ rfl
    have hq : ys[0]? = some (ys[0]'(by rw [hyl]; decide)) := List.getElem?_eq_getElem _
    rw [hq] at q0
    obtain ⟨k0, g0, _, w0⟩ := DataW.trod_string Tryz.underlying9 q0
    obtain ⟨k1, g1, _, w1⟩ := DataW.trod_string Tryz.underlying9 r1
    have hct : Tryz.prog.cellsOf 9 = 1 := by kernel_rfl
    have g0' : ([u0].drop 0).take (Tryz.prog.cellsOf 9) = [.string k0] := g0
    rw [hct] at g0'
    simp only [List.drop_zero, List.take_succ_cons, List.take_zero, List.cons.injEq, and_true] at g0' g1
    subst g0' g1
    refine ⟨(k0.data.toList, k1), ?_, by simpa using w0, w1⟩
    unfold srcL
    simp only [bs_list]
    generalize C i = L at *
    match L, hw with
    | [c0, c1], _ =>
      simp at e0 e1
      subst e0 e1
      rfl)
  exact ⟨ss, ⟨h1, h2⟩⟩
end
end Go.Proofs.YthglfmacjoecgaaGreatDoor
