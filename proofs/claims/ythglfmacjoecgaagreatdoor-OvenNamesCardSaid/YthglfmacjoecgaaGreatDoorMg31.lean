/- Texts of the proof, one behind the other: apiaryref09.Same and apiaryref05.Same at like lists. -/
import Derived.Test.YthglfmacjoecgaaGreatDoorMg22
import Derived.Test.YthglfmacjoecgaaGreatDoorMg23
import Derived.Deep.QuietTactic
import Derived.BigQuiet
namespace Go.Proofs.YthglfmacjoecgaaGreatDoor
open Go.RowKit

theorem equalIn_blt (a : BltR) (h0 : a.1.length ≤ maxLen) (ha : (Lit.int .i64 a.2.1).wf = true) (ha2 : a.2.2.size ≤ maxLen) (w : World) :
    (Op.equalIn 10000 53 (.agg #[.string (bs a.1), .int .i64 a.2.1, .string a.2.2]) (.agg #[.string (bs a.1), .int .i64 a.2.1, .string a.2.2])).run Tryz.prog w = .ok true w := by
  have hf : ∀ r : BltR, (bltW r).formed Tryz.prog 53 = true := fun r => by kernel_rfl
  obtain ⟨r, e1, e2⟩ := run_equalIn_deep (P := Tryz.prog) 9997 3 53 (by kernel_rfl) w 3 3 (bltW a) (bltW a) _ _ (hf a) (hf a) (lits_blt a h0 ha ha2) (lits_blt a h0 ha ha2)
  rw [e2.2 rfl] at e1
  exact e1
set_option maxRecDepth 100000 in
set_option maxHeartbeats 4000000 in
theorem sameB_eq (xs : List BltR) (hx : ∀ x ∈ xs, x.1.length ≤ maxLen ∧ (Lit.int .i64 x.2.1).wf = true ∧ x.2.2.size ≤ maxLen) (v u : Value) (w : World) (hv : BltAt w v xs) (hu : BltAt w u xs) :
    Calls Tryz.prog 21 #[v, u] w (Rets (.bool true) (Chg (fun _ => False) w)) := by
  have hlen := hv.len
  have hlen2 := hu.len
  have hmx := hv.rows.le
  unfold maxLen at hmx
  have HV := hid hv
  have HU := hid hu
  have HX := hid hx
  clear hv hu hx
  go_enter Tryz.func21, Tryz.ntmps21
  go_wp2_with fail
  go_loopw [5] (fun i wr => ∃ k : Nat, k ≤ xs.length ∧ i = .int .i64 k ∧ Chg (fun _ => False) w wr) (fun i _ => xs.length - (intOf i).toNat)
  case atStart => exact ⟨0, Nat.zero_le _, rfl, Chg.refl _ _⟩
  case round =>
    obtain ⟨k, hk, rfl, hch⟩ := hrel
    have HC := hid hch
    clear hch
    by_cases hkn : k < xs.length
    · have hkn' : (k : Int) < xs.length := by omega
      obtain ⟨b1, o1, hix1, x0, x1, x2, hl1⟩ := (HV.out.chg HC.out (fun _ _ h => h)).ix k hkn
      obtain ⟨b2, o2, hix2, y0, y1, y2, hl2⟩ := (HU.out.chg HC.out (fun _ _ h => h)).ix k hkn
      obtain ⟨g0, g1, g2⟩ := HX.out _ (List.getElem_mem hkn)
      have heq := equalIn_blt xs[k] g0 g1 g2
      generalize bs xs[k].1 = nm at *
      generalize xs[k].2.1 = c at *
      generalize xs[k].2.2 = b at *
      clear g0 g1 g2
      go_wp2_with fail
      go_quiet (fail)
      go_wp2_with fail
      go_roundw
      case rel => exact ⟨k + 1, by omega, by go_num, HC.out.drewN _⟩
      case measure => simp [intOf]; omega
    · obtain rfl : k = xs.length := by omega
      go_wp2_with fail
      go_ret
      exact ⟨rfl, HC.out⟩
/-- '!=' of two like digests. -/
theorem neq_dig_same (f : Nat → UInt8) (w : World) : (binOp .neq 57 (.agg (rowB 32 f)) (.agg (rowB 32 f))).run Tryz.prog w = .ok (.bool false) w := by
  have h := eq_dig_same f w
  rw [run_eql_struct] at h
  rw [run_neq_struct]
  cases hr : (Op.equalIn 10000 57 (.agg (rowB 32 f)) (.agg (rowB 32 f))).run Tryz.prog w with
  | ok b w' =>
    rw [hr] at h
    simp only [Result.andThen, Result.ok.injEq, Value.bool.injEq] at h
    obtain ⟨rfl, rfl⟩ := h
    rfl
  | _ => rw [hr] at h; cases h
theorem yieldsIf_neq {P : Program} {ops : Array Oper} {S : World → Prop} {o : Oper} {a : Act} (hw : Region.wanted o (yielded ops a.tmps) = true) (t t2 : TypeId) (x y : Operand) (hop : o.op = Op.binOp .neq t x y t2) (xs ys : Array Value) (hx : a.eval x = .agg xs) (hy : a.eval y = .agg ys) (hm : P.eqGuardType P.depth t = false) (r : Bool)
    (hr : ∀ w, (binOp .neq t (.agg xs) (.agg ys)).run P w = .ok (.bool r) w) : YieldsIf P ops S o (.bool r) a :=
  .inl ⟨hw, fun w _ => by
    have hge := run_eqGuard_agg (P := P) w .neq t x y xs ys hm
    unfold execOp
    simp only [hop, hx, hy, Sem.run_bind, hge, hr, Sem.run_pure, Result.andThen_ok]⟩
set_option maxRecDepth 100000 in
set_option maxHeartbeats 4000000 in
theorem sameK_eq (n : Nat) (K : Nat → Nat → UInt8) (v u : Value) (w : World) (hv : KeysAt w v n K) (hu : KeysAt w u n K) :
    Calls Tryz.prog 22 #[v, u] w (Rets (.bool true) (Chg (fun _ => False) w)) := by
  have hlen := hv.len
  have hlen2 := hu.len
  have hmx := hv.rows.le
  unfold maxLen at hmx
  have HV := hid hv
  have HU := hid hu
  clear hv hu
  go_enter Tryz.func22, Tryz.ntmps22
  go_wp2_with fail
  go_loopw [5] (fun i wr => ∃ k : Nat, k ≤ n ∧ i = .int .i64 k ∧ Chg (fun _ => False) w wr) (fun i _ => n - (intOf i).toNat)
  case atStart => exact ⟨0, Nat.zero_le _, rfl, Chg.refl _ _⟩
  case round =>
    obtain ⟨k, hk, rfl, hch⟩ := hrel
    have HC := hid hch
    clear hch
    by_cases hkn : k < n
    · have hkn' : (k : Int) < n := by omega
      obtain ⟨b1, o1, hix1, x0, hl1⟩ := (HV.out.chg HC.out (fun _ _ h => h)).ix k hkn
      obtain ⟨b2, o2, hix2, y0, hl2⟩ := (HU.out.chg HC.out (fun _ _ h => h)).ix k hkn
      have hS : ∀ W, Chg (fun _ => False) wr W → W.rangeAt b1 o1 (rowB 32 (K k)).toList ∧ W.rangeAt b2 o2 (rowB 32 (K k)).toList := fun W hW => ⟨fun j u h => hW.cell (x0 j u h) (fun h => h), fun j u h => hW.cell (y0 j u h) (fun h => h)⟩
      go_wp2_with fail
      refine wp_region_held_drew (S := fun W => Chg (fun _ => False) wr W) (by kernel_rfl) ((Chg.refl _ wr).drew) (fun hd => ?_)
      refine wpAnyH_takeD (i := 0) (v := v) (some 17) rfl (by kernel_rfl) (by kernel_rfl) (by kernel_rfl) (by kernel_rfl) (fun _ _ _ h => h) (.inl ⟨by kernel_rfl, fun W _ => by kernel_rfl⟩) hd ?_
      refine wpAnyH_takeD (i := 1) (v := .int .i64 k) (some 18) rfl (by kernel_rfl) (by kernel_rfl) (by kernel_rfl) (by kernel_rfl) (fun _ _ _ h => h) (.inl ⟨by kernel_rfl, fun W _ => by kernel_rfl⟩) hd ?_
      refine wpAnyH_takeD (i := 2) (v := .pointer (some ⟨b1, o1, none⟩)) (some 19) rfl (by kernel_rfl) (by kernel_rfl) (by kernel_rfl) (by kernel_rfl) (fun _ _ _ h => h) (yieldsIf_index (by kernel_rfl) 34 (.tmp 17) (.tmp 18) (by kernel_rfl) (v) (.int .i64 k) _ (by kernel_rfl) (by kernel_rfl) hix1) hd ?_
      refine wpAnyH_takeD (i := 3) (v := .agg (rowB 32 (K k)).toList.toArray) (some 20) rfl (by kernel_rfl) (by kernel_rfl) (by kernel_rfl) (by kernel_rfl) (fun _ _ _ h => h) (yieldsIf_load_mid (by kernel_rfl) 57 (.tmp 19) (by kernel_rfl) b1 o1 (by kernel_rfl) _ _ (fun W hW => (hS W hW).1) Tryz.underlying57 rfl (by rw [Array.length_toList, rowB_size]; kernel_rfl)) hd ?_
      refine wpAnyH_takeD (i := 4) (v := u) (some 21) rfl (by kernel_rfl) (by kernel_rfl) (by kernel_rfl) (by kernel_rfl) (fun _ _ _ h => h) (.inl ⟨by kernel_rfl, fun W _ => by kernel_rfl⟩) hd ?_
      refine wpAnyH_takeD (i := 5) (v := .int .i64 k) (some 22) rfl (by kernel_rfl) (by kernel_rfl) (by kernel_rfl) (by kernel_rfl) (fun _ _ _ h => h) (.inl ⟨by kernel_rfl, fun W _ => by kernel_rfl⟩) hd ?_
      refine wpAnyH_takeD (i := 6) (v := .pointer (some ⟨b2, o2, none⟩)) (some 23) rfl (by kernel_rfl) (by kernel_rfl) (by kernel_rfl) (by kernel_rfl) (fun _ _ _ h => h) (yieldsIf_index (by kernel_rfl) 34 (.tmp 21) (.tmp 22) (by kernel_rfl) (u) (.int .i64 k) _ (by kernel_rfl) (by kernel_rfl) hix2) hd ?_
      refine wpAnyH_takeD (i := 7) (v := .agg (rowB 32 (K k)).toList.toArray) (some 24) rfl (by kernel_rfl) (by kernel_rfl) (by kernel_rfl) (by kernel_rfl) (fun _ _ _ h => h) (yieldsIf_load_mid (by kernel_rfl) 57 (.tmp 23) (by kernel_rfl) b2 o2 (by kernel_rfl) _ _ (fun W hW => (hS W hW).2) Tryz.underlying57 rfl (by rw [Array.length_toList, rowB_size]; kernel_rfl)) hd ?_
      refine wpAnyH_takeD (i := 8) (v := .bool false) (some 25) rfl (by kernel_rfl) (by kernel_rfl) (by kernel_rfl) (by kernel_rfl) (fun _ _ _ h => h) (yieldsIf_neq (by kernel_rfl) 57 57 (.tmp 20) (.tmp 24) (by kernel_rfl) (rowB 32 (K k)) (rowB 32 (K k)) (by kernel_rfl) (by kernel_rfl) (by kernel_rfl) false (neq_dig_same _)) hd ?_
      simp only [Act.put, List.setIfInBounds_toArray, List.set_cons_zero, List.set_cons_succ]
      refine wpAnyH_done (by kernel_rfl) ?_ _
      have HF := hid (HC.out.trans hd (fun _ _ h => h))
      clear hS x0 y0 hd
      go_wp2_with fail
      go_roundw
      case rel => exact ⟨k + 1, by omega, by go_num, HF.out⟩
      case measure => simp [intOf]; omega
    · obtain rfl : k = n := by omega
      go_wp2_with fail
      go_ret
      exact ⟨rfl, HC.out⟩
end Go.Proofs.YthglfmacjoecgaaGreatDoor
