/- Texts of the proof, one behind the other: oven.Fits walked. -/
import Derived.Test.YthglfmacjoecgaaGreatDoorMg38
import Derived.Deep.MidRow
import Derived.StillTailTactics
import Derived.Deep.RegionHeld3
namespace Go.Proofs.YthglfmacjoecgaaGreatDoor
open Go.RowKit
section
variable {P : Program} {w : World} {ops : Array Oper} {rest : List Oper} {o : Oper} {a : Act} {Q : Act → Prop}
theorem wpStill_loadM (hg : o.guard = none) (t : TypeId) (x : Operand) (hop : o.op = Op.load t x) (b off : Nat) (v : Value) (hx : a.eval x = .pointer (some ⟨b, off, none⟩)) (hr : (loadVar t ⟨b, off, none⟩).run P w = .ok v w)
    (h : wpStill P ops w Q rest (a.put o.dst v)) : wpStill P ops w Q (o :: rest) a := by
  unfold wpStill
  rw [if_pos (by simp [Region.wanted, hg])]
  unfold Oper.still
  simp only [execOp, hop, hx, Instr.loadAt, Instr.sureAddr, Sem.run_bind, Sem.run_pure, Result.andThen_ok, hr]
  exact ⟨rfl, h⟩
end
section
variable {P : Program} {w : World} {ops : Array Oper} {rest : List Oper} {o : Oper} {a : Act} {Q : Exit → Act → World → Prop}
/-- '==' of two structs or arrays, what it says being known. -/
theorem wpList_eql (hg : o.guard = none) (t t2 : TypeId) (x y : Operand) (hop : o.op = Op.binOp .eql t x y t2) (xs ys : Array Value) (hx : a.eval x = .agg xs) (hy : a.eval y = .agg ys) (hm : P.eqGuardType P.depth t = false) (r : Bool) (hr : (binOp .eql t (.agg xs) (.agg ys)).run P w = .ok (.bool r) w)
    (h : wpList P ops Q rest (a.put o.dst (.bool r)) w) : wpList P ops Q (o :: rest) a w := by
  refine wpList_plain hg fun K' hK' => ?_
  have hge := run_eqGuard_agg (P := P) w .eql t x y xs ys hm
  unfold Oper.wp
  simp only [execOp, hop, Sem.run_bind, hx, hy, hge, hr, Result.andThen, Sem.run_pure, Oper.upon]
  exact hK' _ _ h
end
theorem yieldsIf_eql {P : Program} {ops : Array Oper} {S : World → Prop} {o : Oper} {a : Act} (hw : Region.wanted o (yielded ops a.tmps) = true) (t t2 : TypeId) (x y : Operand) (hop : o.op = Op.binOp .eql t x y t2) (xs ys : Array Value) (hx : a.eval x = .agg xs) (hy : a.eval y = .agg ys) (hm : P.eqGuardType P.depth t = false) (r : Bool)
    (hr : ∀ w, (binOp .eql t (.agg xs) (.agg ys)).run P w = .ok (.bool r) w) : YieldsIf P ops S o (.bool r) a :=
  .inl ⟨hw, fun w _ => by
    have hge := run_eqGuard_agg (P := P) w .eql t x y xs ys hm
    unfold execOp
    simp only [hop, hx, hy, Sem.run_bind, hge, hr, Sem.run_pure, Result.andThen_ok]⟩
theorem rec_range {W : World} {d : Nat} {key : Nat → UInt8} {c : Int} {out : Nat → UInt8} {T : TypeId} {fz : Nat × Nat} (h : W.heap[d]? = some (.cells (recA key c out) T fz)) : W.rangeAt d 0 (rowB 32 key).toList := by
  intro j v hv
  rw [Nat.zero_add, cell_of h, ← Array.getElem?_toList, recA_list, List.getElem?_append_left (by
    have := (List.getElem?_eq_some_iff.1 hv).1
    exact this)]
  exact hv
set_option maxRecDepth 100000 in
set_option maxHeartbeats 4000000 in
theorem fits_any {B : Nat} (key : Nat → UInt8) (xc : Int) (xo : Nat → UInt8) (hxc : (Lit.int .i64 xc).wf = true) (r : ResR) (hb : r.2.size ≤ 100000) (hrc : (Lit.int .i64 r.1).wf = true) (w : World) (hT : TabsOK B w) (hB : B ≤ w.heap.size) :
    Calls Tryz.prog 35 #[.agg (recA key xc xo), resW r] w (Ans (xc = r.1 ∧ ∀ i, i < 32 → xo i = outF r i) w) := by
  have hrec : ∀ W, Chg (fun _ => False) w W → Calls Tryz.prog 31 #[.agg (rowB 32 key), resW r] W (Rets (recV key r) (Chg (fun _ => False) W)) := fun W hW => record_any key r hb W (hT.keep hW) (Nat.le_trans hB hW.size)
  have HREC := hid hrec
  clear hrec hT hB
  unfold resW at *
  go_enter Tryz.func35, Tryz.ntmps35
  go_wp2_with (guard_target =~ wpList _ _ _ (Oper.mk (some 2) _ _ _ _ _ :: _) _ _; refine wpList_box1 rfl 67 _ rfl (recA key xc xo) rfl ?_; intro w1 hk1 hs1 hc1; clear hs1)
  have hk2 := heap_alloc_old' hk1 (.cells #[.int .i64 r.1, .string r.2] 47)
  have hk3 := heap_alloc_new' w1 (.cells #[.int .i64 r.1, .string r.2] 47)
  have hc2 : Chg (fun _ => False) w (w1.alloc (.cells #[.int .i64 r.1, .string r.2] 47)) := hc1.alloc _
  have p0 := cell_of hk3 0
  have p1 := cell_of hk3 1
  simp at p0 p1
  generalize w1.alloc (.cells #[.int .i64 r.1, .string r.2] 47) = W2 at *
  have hS : ∀ W, Chg (fun _ => False) W2 W → W.rangeAt w.heap.size 0 (recA key xc xo).toList ∧ W.rangeAt w1.heap.size 0 [.int .i64 r.1, .string r.2] := fun W hW => by
    refine ⟨fun j v hv => ?_, fun j v hv => ?_⟩
    · rw [Nat.zero_add, cell_of (hW.obj hk2 (fun h => h))]
      simpa using hv
    · rw [Nat.zero_add, cell_of (hW.obj hk3 (fun h => h))]
      simpa using hv
  refine wp_region_held_drew (S := fun W => Chg (fun _ => False) W2 W) (by kernel_rfl) ((Chg.refl _ W2).drew) (fun hd => ?_)
  refine wpAnyH_take (i := 0) rfl (by kernel_rfl) (by kernel_rfl) (by kernel_rfl) (fun _ _ _ h => h) (yieldsIf_load_mid rfl 67 _ rfl w.heap.size 0 rfl _ _ (fun W hW => (hS W hW).1) Tryz.underlying67 rfl (by rw [Array.length_toList, recA_size]; kernel_rfl)) hd ?_
  refine wpAnyH_take (i := 1) (v := .pointer (some ⟨w.heap.size, 0, none⟩)) rfl (by kernel_rfl) (by kernel_rfl) (by kernel_rfl) (fun _ _ _ h => h) (.inl ⟨rfl, fun W _ => by kernel_rfl⟩) hd ?_
  refine wpAnyH_take (i := 2) rfl (by kernel_rfl) (by kernel_rfl) (by kernel_rfl) (fun _ _ _ h => h) (yieldsIf_load_mid rfl 57 _ rfl w.heap.size 0 rfl (rowB 32 key).toList _ (fun W hW => rec_range (hW.obj hk2 (fun h => h))) Tryz.underlying57 rfl (by rw [Array.length_toList, rowB_size]; kernel_rfl)) hd ?_
  refine wpAnyH_take (i := 3) rfl (by kernel_rfl) (by kernel_rfl) (by kernel_rfl) (fun _ _ _ h => h) (yieldsIf_load_mid rfl 47 _ rfl w1.heap.size 0 rfl [.int .i64 r.1, .string r.2] _ (fun W hW => (hS W hW).2) Tryz.underlying47 rfl (by kernel_rfl)) hd ?_
  refine wpAnyH_all (rs := [4]) (by kernel_rfl) (by simp) (fun i hi => ?_)
  obtain rfl : i = 4 := by simpa using hi
  refine wpOp_step rfl (fun K' hK => ?_)
  refine Eq.mpr (if_pos (by kernel_rfl)) ?_
  go_wp2_with (go_at_call 31; refine (HREC.out _ (hc2.trans hd (fun _ _ h => h))).mono ?_; rintro e w5 ⟨rfl, hc5⟩)
  refine ⟨hd.trans hc5 (fun _ _ h => h), ?_⟩
  obtain ⟨R, hR1, hR2⟩ := eq_rec key key xc r.1 hxc hrc xo (outF r) w5
  have hRA : ∀ W, (binOp .eql 67 (.agg (recA key xc xo)) (.agg (recA key r.1 (outF r)))).run Tryz.prog W = .ok (.bool R) W := fun W => by
    obtain ⟨R', h1, h2⟩ := eq_rec key key xc r.1 hxc hrc xo (outF r) W
    rw [h1, Bool.eq_iff_iff.2 (h2.trans hR2.symm)]
  refine wpAnyH_take (i := 5) rfl (by kernel_rfl) (by kernel_rfl) (by kernel_rfl) (fun _ _ _ h => h) (yieldsIf_eql (by kernel_rfl) 67 67 _ _ rfl (recA key xc xo) (recA key r.1 (outF r)) rfl rfl (by kernel_rfl) R hRA) (hd.trans hc5 (fun _ _ h => h)) ?_
  refine wpAnyH_take (i := 6) (v := .bool R) rfl (by kernel_rfl) (by kernel_rfl) (by kernel_rfl) (fun _ _ _ h => h) (.inl ⟨by kernel_rfl, fun W _ => by kernel_rfl⟩) (hd.trans hc5 (fun _ _ h => h)) ?_
  refine wpAnyH_done (by kernel_rfl) ?_ _
  have hfin : R = true ↔ (xc = r.1 ∧ ∀ i, i < 32 → xo i = outF r i) := hR2.trans ⟨fun h => h.2, fun h => ⟨fun _ _ => rfl, h⟩⟩
  have hcf : Chg (fun _ => False) w w5 := (hc2.trans hd (fun _ _ h => h)).trans hc5 (fun _ _ h => h)
  have HF := hid hfin
  have HCF := hid hcf
  clear hfin hcf hRA hR1 hR2 hS
  go_wp2_with fail
  go_ret
  exact ⟨R, rfl, HF.out, HCF.out⟩
end Go.Proofs.YthglfmacjoecgaaGreatDoor
