/- Texts of the proof, one behind the other: apiaryref09.Record walked; what the law asks of records, in plain words; oven.Fits walked. -/
import Derived.Test.YthglfmacjoecgaaGreatDoorMg18
import Derived.Deep.MidRow
import Derived.StillTailTactics
import Derived.Deep.RegionHeld3
namespace Go.Proofs.YthglfmacjoecgaaGreatDoor
open Go.RowKit

set_option maxRecDepth 100000 in
set_option maxHeartbeats 4000000 in
theorem rrecord_any (key : Nat → UInt8) (r : ResR) (hb : r.2.size ≤ 100000) (w : World) :
    Calls Tryz.prog 34 #[.agg (rowB 32 key), resW r] w (Rets (recV key r) (Chg (fun _ => False) w)) := by
  obtain ⟨c, b⟩ := r
  unfold resW
  simp only at hb ⊢
  by_cases h0 : c = 0
  · subst h0
    go_enter Tryz.func34, Tryz.ntmps34
    go_wp2_with (first | (guard_target =~ wpList _ _ _ (Oper.mk (some 2) _ _ _ _ _ :: _) _ _; refine wpList_box1 rfl 57 _ rfl (rowB 32 key) rfl ?_; intro w1 hk1 hs1 hc1; have HK1 := hid hk1; have HC1 := hid hc1; have HS1 := hid hs1; clear hs1 hk1 hc1) | (guard_target =~ wpList _ _ _ (Oper.mk (some 4) _ _ _ _ _ :: _) _ _; refine wpList_alloc0 rfl 67 rfl (recA zeroF 0 zeroF) (allocRec _) ?_; intro w3 hk3 hs3 hc3; have HK3 : Hid (w3.heap[w1.heap.size + 1]? = some (.cells (recA zeroF 0 zeroF) 67 (0, 0))) := hid (by have h := hk3; rw [show (w1.alloc (.cells #[.int .i64 0, .string b] 47)).heap.size = w1.heap.size + 1 by simp] at h; exact h); have HC3 := hid hc3; have HS3 : Hid (w3.heap.size = w1.heap.size + 1 + 1) := hid (by rw [hs3]; simp); have kR := hc3.obj (heap_alloc_new' w1 (.cells #[.int .i64 0, .string b] 47)) (fun h => h); have HKR := hid kR; have p0 := cell_of kR 0; have p1 := cell_of kR 1; simp at p0 p1; have hk2 := hc3.obj (heap_alloc_old' HK1.out (.cells #[.int .i64 0, .string b] 47)) (fun h => h); have HK2 := hid hk2; have HCW3 : Hid (Chg (fun _ => False) w w3) := hid ((HC1.out.alloc _).trans hc3 (fun _ _ h => h)); clear hs3 hk3 hc3 kR hk2) | (guard_target =~ wpList _ _ _ (Oper.mk (some 6) _ _ _ _ _ :: _) _ _; refine wpList_load0 rfl 57 _ rfl w.heap.size (rowB 32 key) (.array 32 5) rfl HK2.out Tryz.underlying57 rfl (by rw [rowB_size]; kernel_rfl) ?_) | (guard_target =~ wpList _ _ _ (Oper.mk (some 9) _ _ _ _ _ :: _) _ _; refine wpList_build2 rfl 67 0 1 _ _ rfl (.agg (rowB 32 key)) (.int .i64 0) rfl rfl _ (buildRec key 0 _) ?_) | (guard_target =~ wpList _ _ _ (Oper.mk (some 5) _ _ _ _ _ :: _) _ _; refine wpList_alloc0 rfl 67 rfl (recA zeroF 0 zeroF) (allocRec _) ?_; intro w5 hk5 hs5 hc5; have HK5 := hid hk5; have HC5 := hid hc5; have HS5 := hid hs5; clear hs5 hk5 hc5) | (guard_target =~ wpList _ _ _ (Oper.mk none (Op.store _ (Operand.tmp 4) _) _ _ _ _ :: _) _ _; refine wpList_store0 rfl 67 _ _ rfl (w1.heap.size + 1) (recA zeroF 0 zeroF) (recA key 0 (ofB [b])) rfl rfl HK48.out (by rw [recA_size]; exact sizeRec) (by rw [recA_size, recA_size]) (recA_one _ _ _) ?_; intro w9 hk9 hs9 hc9) | (guard_target =~ wpList _ _ _ (Oper.mk none (Op.store _ (Operand.tmp 16) _) _ _ _ _ :: _) _ _; refine wpList_storeO rfl 57 _ _ rfl w3.heap.size 33 67 (recA key 0 zeroF) (rowB 32 (ofB [b])) (recA key 0 (ofB [b])) rfl rfl HK7.out (by rw [rowB_size]; exact size37) (by rw [rowB_size, recA_size]; decide) (rowB_one _ _) (recA_put _ _ _ _) ?_; intro w8 hk8 hs8 hc8; have HK8 := hid hk8; have HC8 := hid hc8; have HK48 := hid (hc8.obj (hc7.obj HK46.out (fun h => h)) (by have := HS3.out; show ¬ (w1.heap.size + 1 = w3.heap.size); omega)); clear hs8 hk8) | (guard_target =~ wpList _ _ _ (Oper.mk none (Op.store _ (Operand.tmp 5) _) _ _ _ _ :: _) _ _; refine wpList_store0 rfl 67 _ _ rfl w3.heap.size (recA zeroF 0 zeroF) (recA key 0 zeroF) rfl rfl HK5.out (by rw [recA_size]; exact sizeRec) (by rw [recA_size, recA_size]) (recA_one _ _ _) ?_; intro w6 hk6 hs6 hc6; have HK6 := hid hk6; have HC6 := hid hc6; clear hs6 hk6; have p0 := hc6.cell (HC5.out.cell p0 (fun h => h)) (by have := HS3.out; show ¬ (w1.heap.size = w3.heap.size); omega); have p1 := hc6.cell (HC5.out.cell p1 (fun h => h)) (by have := HS3.out; show ¬ (w1.heap.size = w3.heap.size); omega); have HK46 := hid (hc6.obj (HC5.out.obj HK3.out (fun h => h)) (by have := HS3.out; show ¬ (w1.heap.size + 1 = w3.heap.size); omega)); have HCW6 : Hid (Chg (fun _ => False) w w6) := hid ((HCW3.out.trans HC5.out (fun _ _ h => h)).trans hc6 (fun i hi h => by have := HCW3.out.size; omega)); clear hc6) | (go_at_call 70; refine (rof_any b hb _).mono ?_; rintro e w7 ⟨rfl, hc7⟩; have HK7 := hid (hc7.obj HK6.out (fun h => h))) | (guard_target =~ wpList _ _ _ (Oper.mk (some 17) _ _ _ _ _ :: _) _ _; refine wpList_load0 rfl 67 _ rfl w3.heap.size (recA key 0 (ofB [b])) (.struct _) rfl HK8.out Tryz.underlying67 rfl (by rw [recA_size]; kernel_rfl) ?_))
    refine bodyPost_ret (v := .agg (recA key 0 (ofB [b]))) ?_ rfl ⟨?_, ?_⟩
    · exact results_row Tryz.results34 _ _ (w1.heap.size + 1) rfl _ (run_loadVar_row _ (w1.heap.size + 1) 67 67 _ (0, 0) (.struct _) hk9 Tryz.underlying67 rfl (by rw [recA_size]; kernel_rfl))
    · have ho : outF (0, b) = (ofB [b]) := if_pos rfl
      unfold recV
      rw [ho]
    · exact ((HCW6.out.trans hc7 (fun _ _ h => h)).trans HC8.out (fun i hi h => by have := HCW3.out.size; omega)).trans hc9 (fun i hi h => by have := HS1.out; omega)
  · have hne : (c == 0) = false := by rw [beq_eq_false_iff_ne]; exact h0
    go_enter Tryz.func34, Tryz.ntmps34
    go_wp2_with (first | (guard_target =~ wpList _ _ _ (Oper.mk (some 2) _ _ _ _ _ :: _) _ _; refine wpList_box1 rfl 57 _ rfl (rowB 32 key) rfl ?_; intro w1 hk1 hs1 hc1; have HK1 := hid hk1; have HC1 := hid hc1; have HS1 := hid hs1; clear hs1 hk1 hc1) | (guard_target =~ wpList _ _ _ (Oper.mk (some 4) _ _ _ _ _ :: _) _ _; refine wpList_alloc0 rfl 67 rfl (recA zeroF 0 zeroF) (allocRec _) ?_; intro w3 hk3 hs3 hc3; have HK3 : Hid (w3.heap[w1.heap.size + 1]? = some (.cells (recA zeroF 0 zeroF) 67 (0, 0))) := hid (by have h := hk3; rw [show (w1.alloc (.cells #[.int .i64 c, .string b] 47)).heap.size = w1.heap.size + 1 by simp] at h; exact h); have HC3 := hid hc3; have HS3 : Hid (w3.heap.size = w1.heap.size + 1 + 1) := hid (by rw [hs3]; simp); have kR := hc3.obj (heap_alloc_new' w1 (.cells #[.int .i64 c, .string b] 47)) (fun h => h); have HKR := hid kR; have p0 := cell_of kR 0; have p1 := cell_of kR 1; simp at p0 p1; have hk2 := hc3.obj (heap_alloc_old' HK1.out (.cells #[.int .i64 c, .string b] 47)) (fun h => h); have HK2 := hid hk2; have HCW3 : Hid (Chg (fun _ => False) w w3) := hid ((HC1.out.alloc _).trans hc3 (fun _ _ h => h)); clear hs3 hk3 hc3 kR hk2) | (guard_target =~ wpList _ _ _ (Oper.mk (some 6) _ _ _ _ _ :: _) _ _; refine wpList_load0 rfl 57 _ rfl w.heap.size (rowB 32 key) (.array 32 5) rfl HK2.out Tryz.underlying57 rfl (by rw [rowB_size]; kernel_rfl) ?_) | (guard_target =~ wpList _ _ _ (Oper.mk (some 9) _ _ _ _ _ :: _) _ _; refine wpList_build2 rfl 67 0 1 _ _ rfl (.agg (rowB 32 key)) (.int .i64 c) rfl rfl _ (buildRec key c _) ?_) | (guard_target =~ wpList _ _ _ (Oper.mk (some 5) _ _ _ _ _ :: _) _ _; refine wpList_alloc0 rfl 67 rfl (recA zeroF 0 zeroF) (allocRec _) ?_; intro w5 hk5 hs5 hc5; have HK5 := hid hk5; have HC5 := hid hc5; have HS5 := hid hs5; clear hs5 hk5 hc5) | (guard_target =~ wpList _ _ _ (Oper.mk none (Op.store _ (Operand.tmp 4) _) _ _ _ _ :: _) _ _; refine wpList_store0 rfl 67 _ _ rfl (w1.heap.size + 1) (recA zeroF 0 zeroF) (recA key c zeroF) rfl rfl HK48.out (by rw [recA_size]; exact sizeRec) (by rw [recA_size, recA_size]) (recA_one _ _ _) ?_; intro w9 hk9 hs9 hc9) | (guard_target =~ wpList _ _ _ (Oper.mk none (Op.store _ (Operand.tmp 5) _) _ _ _ _ :: _) _ _; refine wpList_store0 rfl 67 _ _ rfl w3.heap.size (recA zeroF 0 zeroF) (recA key c zeroF) rfl rfl HK5.out (by rw [recA_size]; exact sizeRec) (by rw [recA_size, recA_size]) (recA_one _ _ _) ?_; intro w6 hk6 hs6 hc6; have HK6 := hid hk6; have HC6 := hid hc6; clear hs6 hk6; have p0 := hc6.cell (HC5.out.cell p0 (fun h => h)) (by have := HS3.out; show ¬ (w1.heap.size = w3.heap.size); omega); have p1 := hc6.cell (HC5.out.cell p1 (fun h => h)) (by have := HS3.out; show ¬ (w1.heap.size = w3.heap.size); omega); have HK46 := hid (hc6.obj (HC5.out.obj HK3.out (fun h => h)) (by have := HS3.out; show ¬ (w1.heap.size + 1 = w3.heap.size); omega)); have HCW6 : Hid (Chg (fun _ => False) w w6) := hid ((HCW3.out.trans HC5.out (fun _ _ h => h)).trans hc6 (fun i hi h => by have := HCW3.out.size; omega)); have HK8 := HK6; have HK48 := HK46; clear hc6) | (guard_target =~ wpList _ _ _ (Oper.mk (some 17) _ _ _ _ _ :: _) _ _; refine wpList_load0 rfl 67 _ rfl w3.heap.size (recA key c zeroF) (.struct _) rfl HK8.out Tryz.underlying67 rfl (by rw [recA_size]; kernel_rfl) ?_))
    refine bodyPost_ret (v := .agg (recA key c zeroF)) ?_ rfl ⟨?_, ?_⟩
    · exact results_row Tryz.results34 _ _ (w1.heap.size + 1) rfl _ (run_loadVar_row _ (w1.heap.size + 1) 67 67 _ (0, 0) (.struct _) hk9 Tryz.underlying67 rfl (by rw [recA_size]; kernel_rfl))
    · have ho : outF (c, b) = zeroF := if_neg h0
      unfold recV
      rw [ho]
    · exact HCW6.out.trans hc9 (fun i hi h => by have := HS1.out; omega)
end Go.Proofs.YthglfmacjoecgaaGreatDoor
namespace Go.Proofs.YthglfmacjoecgaaGreatDoor
open Go.RowKit
section
variable {P : Program} {w : World} {ops : Array Oper} {rest : List Oper} {o : Oper} {a : Act} {Q : Act → Prop}
theorem wpStill_loadM (hg : o.guard = none) (t : TypeId) (x : Operand) (hop : o.op = Op.load t x) (b off : Nat) (v : Value) (hx : a.eval x = .pointer (some ⟨b, off, none⟩)) (hr : (loadVar t ⟨b, off, none⟩).run P w = .ok v w)
    (h : wpStill P ops w Q rest (a.put o.dst v)) : wpStill P ops w Q (o :: rest) a := by
  unfold wpStill
  rw [if_pos (by simp [Region.wanted, hg])]
  unfold Oper.still
  simp only [execOp, hop, hx, Instr.loadAt, Instr.sureAddr, Sem.run_bind, Sem.run_pure, Result.andThen_ok, hr]
  exact ⟨rfl, h⟩
end
section
variable {P : Program} {w : World} {ops : Array Oper} {rest : List Oper} {o : Oper} {a : Act} {Q : Exit → Act → World → Prop}
/-- '==' of two structs or arrays, what it says being known. -/
theorem wpList_eql (hg : o.guard = none) (t t2 : TypeId) (x y : Operand) (hop : o.op = Op.binOp .eql t x y t2) (xs ys : Array Value) (hx : a.eval x = .agg xs) (hy : a.eval y = .agg ys) (hm : P.eqGuardType P.depth t = false) (r : Bool) (hr : (binOp .eql t (.agg xs) (.agg ys)).run P w = .ok (.bool r) w)
    (h : wpList P ops Q rest (a.put o.dst (.bool r)) w) : wpList P ops Q (o :: rest) a w := by
  refine wpList_plain hg fun K' hK' => ?_
  have hge := run_eqGuard_agg (P := P) w .eql t x y xs ys hm
  unfold Oper.wp
  simp only [execOp, hop, Sem.run_bind, hx, hy, hge, hr, Result.andThen, Sem.run_pure, Oper.upon]
  exact hK' _ _ h
end
theorem yieldsIf_eql {P : Program} {ops : Array Oper} {S : World → Prop} {o : Oper} {a : Act} (hw : Region.wanted o (yielded ops a.tmps) = true) (t t2 : TypeId) (x y : Operand) (hop : o.op = Op.binOp .eql t x y t2) (xs ys : Array Value) (hx : a.eval x = .agg xs) (hy : a.eval y = .agg ys) (hm : P.eqGuardType P.depth t = false) (r : Bool)
    (hr : ∀ w, (binOp .eql t (.agg xs) (.agg ys)).run P w = .ok (.bool r) w) : YieldsIf P ops S o (.bool r) a :=
  .inl ⟨hw, fun w _ => by
    have hge := run_eqGuard_agg (P := P) w .eql t x y xs ys hm
    unfold execOp
    simp only [hop, hx, hy, Sem.run_bind, hge, hr, Sem.run_pure, Result.andThen_ok]⟩
theorem rec_range {W : World} {d : Nat} {key : Nat → UInt8} {c : Int} {out : Nat → UInt8} {T : TypeId} {fz : Nat × Nat} (h : W.heap[d]? = some (.cells (recA key c out) T fz)) : W.rangeAt d 0 (rowB 32 key).toList := by
  intro j v hv
  rw [Nat.zero_add, cell_of h, ← Array.getElem?_toList, recA_list, List.getElem?_append_left (by
    have := (List.getElem?_eq_some_iff.1 hv).1
    exact this)]
  exact hv
set_option maxRecDepth 100000 in
set_option maxHeartbeats 4000000 in
theorem fits_any {B : Nat} (key : Nat → UInt8) (xc : Int) (xo : Nat → UInt8) (hxc : (Lit.int .i64 xc).wf = true) (r : ResR) (hb : r.2.size ≤ 100000) (hrc : (Lit.int .i64 r.1).wf = true) (w : World) (hT : TabsOK B w) (hB : B ≤ w.heap.size) :
    Calls Tryz.prog 35 #[.agg (recA key xc xo), resW r] w (Ans (xc = r.1 ∧ ∀ i, i < 32 → xo i = outF r i) w) := by
  have hrec : ∀ W, Chg (fun _ => False) w W → Calls Tryz.prog 31 #[.agg (rowB 32 key), resW r] W (Rets (recV key r) (Chg (fun _ => False) W)) := fun W hW => record_any key r hb W (hT.keep hW) (Nat.le_trans hB hW.size)
  have HREC := hid hrec
  clear hrec hT hB
  unfold resW at *
  go_enter Tryz.func35, Tryz.ntmps35
  go_wp2_with (guard_target =~ wpList _ _ _ (Oper.mk (some 2) _ _ _ _ _ :: _) _ _; refine wpList_box1 rfl 67 _ rfl (recA key xc xo) rfl ?_; intro w1 hk1 hs1 hc1; clear hs1)
  have hk2 := heap_alloc_old' hk1 (.cells #[.int .i64 r.1, .string r.2] 47)
  have hk3 := heap_alloc_new' w1 (.cells #[.int .i64 r.1, .string r.2] 47)
  have hc2 : Chg (fun _ => False) w (w1.alloc (.cells #[.int .i64 r.1, .string r.2] 47)) := hc1.alloc _
  have p0 := cell_of hk3 0
  have p1 := cell_of hk3 1
  simp at p0 p1
  generalize w1.alloc (.cells #[.int .i64 r.1, .string r.2] 47) = W2 at *
  have hS : ∀ W, Chg (fun _ => False) W2 W → W.rangeAt w.heap.size 0 (recA key xc xo).toList ∧ W.rangeAt w1.heap.size 0 [.int .i64 r.1, .string r.2] := fun W hW => by
    refine ⟨fun j v hv => ?_, fun j v hv => ?_⟩
    · rw [Nat.zero_add, cell_of (hW.obj hk2 (fun h => h))]
      simpa using hv
    · rw [Nat.zero_add, cell_of (hW.obj hk3 (fun h => h))]
      simpa using hv
  refine wp_region_held_drew (S := fun W => Chg (fun _ => False) W2 W) (by kernel_rfl) ((Chg.refl _ W2).drew) (fun hd => ?_)
  refine wpAnyH_take (i := 0) rfl (by kernel_rfl) (by kernel_rfl) (by kernel_rfl) (fun _ _ _ h => h) (yieldsIf_load_mid rfl 67 _ rfl w.heap.size 0 rfl _ _ (fun W hW => (hS W hW).1) Tryz.underlying67 rfl (by rw [Array.length_toList, recA_size]; kernel_rfl)) hd ?_
  refine wpAnyH_take (i := 1) (v := .pointer (some ⟨w.heap.size, 0, none⟩)) rfl (by kernel_rfl) (by kernel_rfl) (by kernel_rfl) (fun _ _ _ h => h) (.inl ⟨rfl, fun W _ => by kernel_rfl⟩) hd ?_
  refine wpAnyH_take (i := 2) rfl (by kernel_rfl) (by kernel_rfl) (by kernel_rfl) (fun _ _ _ h => h) (yieldsIf_load_mid rfl 57 _ rfl w.heap.size 0 rfl (rowB 32 key).toList _ (fun W hW => rec_range (hW.obj hk2 (fun h => h))) Tryz.underlying57 rfl (by rw [Array.length_toList, rowB_size]; kernel_rfl)) hd ?_
  refine wpAnyH_take (i := 3) rfl (by kernel_rfl) (by kernel_rfl) (by kernel_rfl) (fun _ _ _ h => h) (yieldsIf_load_mid rfl 47 _ rfl w1.heap.size 0 rfl [.int .i64 r.1, .string r.2] _ (fun W hW => (hS W hW).2) Tryz.underlying47 rfl (by kernel_rfl)) hd ?_
  refine wpAnyH_all (rs := [4]) (by kernel_rfl) (by simp) (fun i hi => ?_)
  obtain rfl : i = 4 := by simpa using hi
  refine wpOp_step rfl (fun K' hK => ?_)
  refine Eq.mpr (if_pos (by kernel_rfl)) ?_
  go_wp2_with (go_at_call 31; refine (HREC.out _ (hc2.trans hd (fun _ _ h => h))).mono ?_; rintro e w5 ⟨rfl, hc5⟩)
  refine ⟨hd.trans hc5 (fun _ _ h => h), ?_⟩
  obtain ⟨R, hR1, hR2⟩ := eq_rec key key xc r.1 hxc hrc xo (outF r) w5
  have hRA : ∀ W, (binOp .eql 67 (.agg (recA key xc xo)) (.agg (recA key r.1 (outF r)))).run Tryz.prog W = .ok (.bool R) W := fun W => by
    obtain ⟨R', h1, h2⟩ := eq_rec key key xc r.1 hxc hrc xo (outF r) W
    rw [h1, Bool.eq_iff_iff.2 (h2.trans hR2.symm)]
  refine wpAnyH_take (i := 5) rfl (by kernel_rfl) (by kernel_rfl) (by kernel_rfl) (fun _ _ _ h => h) (yieldsIf_eql (by kernel_rfl) 67 67 _ _ rfl (recA key xc xo) (recA key r.1 (outF r)) rfl rfl (by kernel_rfl) R hRA) (hd.trans hc5 (fun _ _ h => h)) ?_
  refine wpAnyH_take (i := 6) (v := .bool R) rfl (by kernel_rfl) (by kernel_rfl) (by kernel_rfl) (fun _ _ _ h => h) (.inl ⟨by kernel_rfl, fun W _ => by kernel_rfl⟩) (hd.trans hc5 (fun _ _ h => h)) ?_
  refine wpAnyH_done (by kernel_rfl) ?_ _
  have hfin : R = true ↔ (xc = r.1 ∧ ∀ i, i < 32 → xo i = outF r i) := hR2.trans ⟨fun h => h.2, fun h => ⟨fun _ _ => rfl, h⟩⟩
  have hcf : Chg (fun _ => False) w w5 := (hc2.trans hd (fun _ _ h => h)).trans hc5 (fun _ _ h => h)
  have HF := hid hfin
  have HCF := hid hcf
  clear hfin hcf hRA hR1 hR2 hS
  go_wp2_with fail
  go_ret
  exact ⟨R, rfl, HF.out, HCF.out⟩
end Go.Proofs.YthglfmacjoecgaaGreatDoor
